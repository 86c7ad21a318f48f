/- The law FnTraceMore, whole: A further instruction is a further step. No condition. -/
import Derived.Test.YtkolnakcgjlcgaaKac
import Derived.Test.YtkolnakcgjlcgaaKbh
import Derived.Test.YtkolnakcgjlcgaaKbi
import Derived.Test.YtkolnakcgjlcgaaKca
import Derived.Test.YtkolnakcgjlcgaaKcc
import Derived.Test.YtkolnakcgjlcgaaKcd
import Derived.Test.YtkolnakcgjlcgaaKce

namespace Go.Proofs.Ytkolnakcgjlcgaa
open Go.RowKit

set_option maxHeartbeats 1000000 in
set_option maxRecDepth 100000 in
theorem itc_any (vl vm : Value) (cs : List Cd) (a : Int) (mem : List Int) (w : World) (h : Codes w vl cs) (hm : Ints w vm mem) (hs1 : cs.length ≤ 1048576) (hs2 : mem.length ≤ 1048576) :
    Calls Try.prog 41 #[vl, .int .i64 a, vm] w fun e w' => ∃ x, e = .returned (.int .i64 x) ∧ CostP cs a mem x ∧ Pure w w' := by
  have H := Lib.hid h
  have HM := Lib.hid hm
  obtain ⟨A, c, rfl, hnc, hcm⟩ := h.form
  obtain ⟨Am, cm, rfl⟩ := hm.form
  clear h hm
  by_cases hok : RunOk cs a mem
  · have HOK := Lib.hid hok
    obtain ⟨n, rfl, hn1, hn8⟩ := lanes_nat hok.2.1
    clear hok
    go_enter Try.func41, Try.ntmps41
    go_wp2_with fail
    refine (ilock_any _ _ cs n mem _ H.out HM.out HOK.out.1 hn1 hn8 HOK.out.2.2).mono ?_
    rintro e w1 ⟨o, vb, va, rfl, hp0, hcs, hvl, hlk, hn, hmm, hrun⟩
    have hcs' := Lib.hid hcs
    have HIN : Hid (∀ x ∈ (lockOf cs n mem).H, StepIn o.rm.n 0 o.cs.length x) := Lib.hid (by rw [hn, hcs]; exact lockOf_in HOK.out.1)
    have hlen := lockOf_len (n := n) (mem := mem) HOK.out.1
    have HLEN := Lib.hid hlen
    have HR := Lib.hid hrun
    have HN8 : Hid (o.rm.n ≤ 8) := Lib.hid (by rw [hn]; exact hn8)
    have HP0 := Lib.hid (hp0.trans hrun.pure)
    have HVV : Hid (PValid o.cs) := Lib.hid (by rw [hcs]; exact HOK.out.1)
    have HB : Hid (2 ^ n - 1 < 256) := Lib.hid (by have := powI hn8; have : 1 ≤ 2 ^ n := Nat.one_le_two_pow; omega)
    have HEQ : Hid (costM o.cs (2 ^ n - 1) (lockOf cs n mem).H (lockOf cs n mem).H.length = costTo cs (lockOf cs n mem).H (lockOf cs n mem).H.length) := Lib.hid (by rw [hcs]; exact costM_all (lockOf_in HOK.out.1) _ (Nat.le_refl _))
    clear hp0 hcs hvl hlk hn hmm hrun hlen
    go_wp2_with fail
    refine (imaskall_any n _ hn1 hn8).mono ?_
    rintro e w2 ⟨rfl, rfl⟩
    obtain ⟨b, Hb⟩ : ∃ b, Hid (2 ^ n - 1 = b) := ⟨2 ^ n - 1, Lib.hid rfl⟩
    rw [Hb.out] at HB HEQ ⊢
    go_wp2_with fail
    refine (lcost_any o HVV.out b HB.out _ _ _ _ HR.out HIN.out HLEN.out HN8.out).mono ?_
    rintro e w3 ⟨rfl, hp3⟩
    rw [HEQ.out]
    go_wp2
    go_ret
    refine ⟨_, rfl, ⟨fun n' hn' _ => ?_, fun hno => absurd HOK.out hno⟩, HP0.out.trans hp3⟩
    obtain rfl : n = n' := by omega
    rfl
  · have HOK := Lib.hid hok
    clear hok
    go_enter Try.func41, Try.ntmps41
    go_wp2_with fail
    refine (ino_any _ _ cs a mem _ H.out HM.out hs1 hs2 HOK.out).mono ?_
    rintro e w1 ⟨rfl, hp1⟩
    go_wp2
    go_ret
    exact ⟨_, rfl, ⟨fun _ _ h => absurd h HOK.out, fun _ => rfl⟩, hp1⟩

end Go.Proofs.Ytkolnakcgjlcgaa

namespace Go.Proofs.Ytkolnakcgjlcgaa
open Go.RowKit

def mulC (r : Int) : Cd := ⟨4, r, 0, 0⟩
theorem mul_plain {r : Int} (h : Reg r) : Plain (mulC r) := by
  unfold Plain mulC CdOk
  refine ⟨.inr (.inr (.inl ⟨.inr (.inl rfl), h, ⟨Int.le_refl 0, by show (0 : Int) ≤ 3; decide⟩, rfl⟩)), ?_, ?_, ?_, ?_⟩ <;> (show ¬ ((4 : Int) = _); decide)
theorem costTo_left {cs ds : List Cd} {H X : List (Nat × Nat × (Nat → Nat → Int))} (h : ∀ x ∈ H, x.1 < cs.length) : ∀ j, j ≤ H.length → costTo (cs ++ ds) (H ++ X) j = costTo cs H j
  | 0, _ => rfl
  | j + 1, hj => by
    have ih := costTo_left (ds := ds) (X := X) h j (by omega)
    unfold costTo
    have hj' : j < H.length := by omega
    have e : (H ++ X).getD j default = H.getD j default := by simp [List.getD_eq_getElem?_getD, List.getElem?_append_left hj']
    have hm : H.getD j default ∈ H := by simp [List.getD_eq_getElem?_getD, hj']
    rw [ih, e, getD_left (h _ hm)]
theorem more_ok {cs : List Cd} {r : Int} {n : Nat} {mem : List Int} (hok : RunOk cs n mem) (hr : Reg r) (h40 : cs.length + 1 ≤ 40) :
    RunOk (cs ++ [mulC r]) n mem ∧ (∃ R, (lockOf (cs ++ [mulC r]) n mem).H = (lockOf cs n mem).H ++ [(cs.length, 2 ^ n - 1, R)]) ∧
    costTo (cs ++ [mulC r]) (lockOf (cs ++ [mulC r]) n mem).H (lockOf (cs ++ [mulC r]) n mem).H.length = costTo cs (lockOf cs n mem).H (lockOf cs n mem).H.length + 2 := by
  have hn : 1 ≤ n := by have := hok.2.1.1; omega
  obtain ⟨hp, hl⟩ := snoc_lock (c := mulC r) (mem := mem) hn hok.1 (mul_plain hr) h40
  have hH : (lockOf (cs ++ [mulC r]) n mem).H = (lockOf cs n mem).H ++ [(cs.length, 2 ^ n - 1, (lockOf cs n mem).R)] := by rw [hl, exec_H]
  refine ⟨⟨hp, hok.2⟩, ⟨_, hH⟩, ?_⟩
  rw [hH, List.length_append]
  have hst : ∀ (ds : List Cd) (K : List (Nat × Nat × (Nat → Nat → Int))) (j : Nat), costTo ds K (j + 1) = costTo ds K j + cdCost (ds.getD (K.getD j default).1 default) := fun _ _ _ => rfl
  show costTo _ _ ((lockOf cs n mem).H.length + 1) = _
  rw [hst, costTo_left (fun x hx => (lockOf_in hok.1 x hx).2.1) _ (Nat.le_refl _)]
  have e : ((lockOf cs n mem).H ++ [(cs.length, 2 ^ n - 1, (lockOf cs n mem).R)]).getD (lockOf cs n mem).H.length default = (cs.length, 2 ^ n - 1, (lockOf cs n mem).R) := by
    simp [List.getD_eq_getElem?_getD]
  rw [e, getD_right (Nat.le_refl _)]
  simp [mulC, cdCost]
theorem mo_open {w : World} {B T : Nat} {v : Value} {n : Nat} {cs ds : List Cd} (hT : T = 36) (ho : OwnO w B T 4 v n ((List.range (cs.length * 4)).map (cdf cs) ++ (List.range (ds.length * 4)).map (cdf ds))) (hn : n = (cs ++ ds).length) : Codes w v (cs ++ ds) := by
  subst hT
  have e : (List.range (cs.length * 4)).map (cdf cs) ++ (List.range (ds.length * 4)).map (cdf ds) = (cs ++ ds).flatMap cdCells := by rw [range_cdf, range_cdf]; simp
  rw [e] at ho
  exact Codes.of_ownO ho hn (flat_cdf _)
theorem codes_one {w : World} {b : Nat} {c : Cd} {t : TypeId} (h : w.heap[b]? = some (.cells #[.int .i64 c.op, .int .i64 c.a, .int .i64 c.b, .int .i64 c.c] t (0, 0))) : Codes w (.slice (some ⟨b, 0, none⟩) 1 1) [c] := by
  refine ⟨_, _, rfl, Nat.le_refl _, by decide, fun _ => ⟨b, 0, rfl, ?_, fun j hj => ?_⟩⟩
  · exact (Array.getElem?_eq_some_iff.1 h).1
  · have hc := flat_cdf [c] j hj
    have e : [c].flatMap cdCells = [.int .i64 c.op, .int .i64 c.a, .int .i64 c.b, .int .i64 c.c] := rfl
    rw [e] at hc
    exact (cell_of_row _ _ _ _ _ _ h).trans (by rw [Nat.zero_add]; simpa using hc)

set_option maxHeartbeats 8000000 in
set_option maxRecDepth 100000 in
theorem law_FnTraceMore (v : Value) (bs : List Int) (v' : Value) (bs2 : List Int) (w : World) (h : Bytes w v bs) (h2 : Bytes w v' bs2) :
    Calls Try.prog 8 #[v, v'] w fun e w' => e = .returned (.bool true) ∧ Pure w w' := by
  have H := Lib.hid h
  have H2 := Lib.hid h2
  obtain ⟨A, c, rfl, hnc, hcm⟩ := h.form
  obtain ⟨A', c', rfl, hnc', hcm'⟩ := h2.form
  clear h h2
  by_cases hbig : (bs.length : Int) > 1048576
  · go_enter Try.func8, Try.ntmps8
    go_wp2
    go_ret
    exact ⟨rfl, Pure.refl _⟩
  by_cases hbig2 : (bs2.length : Int) > 1048576
  · go_enter Try.func8, Try.ntmps8
    go_wp2
    go_ret
    exact ⟨rfl, Pure.refl _⟩
  go_enter Try.func8, Try.ntmps8
  go_wp2_with fail
  refine (draw_DrawTraceCost _ bs _ H.out (by omega)).mono ?_
  rintro e w1 ⟨vl, cs, a, vm, mem, rfl, ha0, ha9, hl, hm, hcl, hml, hp1⟩
  have HC := Lib.hid hl
  have HM := Lib.hid hm
  have HP1 := Lib.hid hp1
  obtain ⟨Ac, cc, rfl, hcc1, hcc2⟩ := hl.form
  obtain ⟨Am, cm, rfl⟩ := hm.form
  clear hl hm hp1
  go_wp2_with fail
  refine (itc_any _ _ cs a mem _ HC.out HM.out (by omega) (by omega)).mono ?_
  rintro e w2 ⟨x, rfl, px, hp2⟩
  have HX := Lib.hid px
  have HP2 := Lib.hid hp2
  clear px hp2
  go_wp2_with fail
  refine (stc_any _ _ cs a mem _ (HC.out.keep HP2.out) (HM.out.keep HP2.out) (by omega) (by omega)).mono ?_
  rintro e w3 ⟨y, rfl, py, hp3⟩
  obtain rfl : x = y := CostP.unique py HX.out
  have hxx : (x != x) = false := by simp
  have HP3 := Lib.hid (HP2.out.trans hp3)
  clear py hp3
  obtain ⟨r, Hr⟩ : ∃ r : Int, Hid ((bs2.length : Int) % 4 = r) := ⟨_, Lib.hid rfl⟩
  have hreg : Reg r := by rw [← Hr.out]; unfold Reg; omega
  have hbox : (w3.alloc (.cells #[.int .i64 4, .int .i64 r, .int .i64 0, .int .i64 0] 36)).cell? ⟨w3.heap.size, 0, none⟩ = some (.int .i64 4) ∧ (w3.alloc (.cells #[.int .i64 4, .int .i64 r, .int .i64 0, .int .i64 0] 36)).cell? ⟨w3.heap.size, 1, none⟩ = some (.int .i64 r) ∧ (w3.alloc (.cells #[.int .i64 4, .int .i64 r, .int .i64 0, .int .i64 0] 36)).cell? ⟨w3.heap.size, 2, none⟩ = some (.int .i64 0) ∧ (w3.alloc (.cells #[.int .i64 4, .int .i64 r, .int .i64 0, .int .i64 0] 36)).cell? ⟨w3.heap.size, 3, none⟩ = some (.int .i64 0) := by
    have := boxed (Pure.refl (w3.alloc (.cells #[.int .i64 4, .int .i64 r, .int .i64 0, .int .i64 0] 36)))
    exact ⟨this.1, this.2.1, this.2.2.1, this.2.2.2.1⟩
  have HPX := Lib.hid (show Pure w3 (w3.alloc (.cells #[.int .i64 4, .int .i64 r, .int .i64 0, .int .i64 0] 36)) from (by repeat (first | assumption | exact Pure.refl _ | refine Pure.drewN ?_ _ | refine Pure.drew ?_ | refine Pure.alloc ?_ _ | refine Pure.setCell ?_ (by simp <;> omega) _)))
  by_cases hok : RunOk cs a mem
  · obtain ⟨n, rfl, hn1, hn8⟩ := lanes_nat hok.2.1
    have h40 := hok.1.2.1
    have hxv := HX.out.1 n rfl hok
    have hxn : ¬ x < 0 := by omega
    have HOK := Lib.hid hok
    have HXV := Lib.hid hxv
    clear hok hxv
    by_cases hl40 : cs.length = 40
    · have hb : ((cs.length : Int) == 40) = true := by rw [beq_iff_eq]; omega
      go_wp2_with fail
      refine (alive_any _).mono ?_
      rintro e w9 ⟨rfl, hp9⟩
      go_wp2
      go_ret
      exact ⟨rfl, (HP1.out.trans (HP3.out.trans (by exact (by repeat (first | assumption | exact Pure.refl _ | refine Pure.drewN ?_ _ | refine Pure.drew ?_ | refine Pure.alloc ?_ _ | refine Pure.setCell ?_ (by simp <;> omega) _))))).trans hp9⟩
    have hb : ((cs.length : Int) == 40) = false := by rw [beq_eq_false_iff_ne]; omega
    obtain ⟨wx, Hwx⟩ : ∃ wx, Hid (w3.alloc (.cells #[.int .i64 4, .int .i64 r, .int .i64 0, .int .i64 0] 36) = wx) := ⟨_, Lib.hid rfl⟩
    obtain ⟨bx, Hbx⟩ : ∃ bx, Hid (w3.heap.size = bx) := ⟨_, Lib.hid rfl⟩
    rw [Hwx.out, Hbx.out] at hbox
    obtain ⟨x0, x1, x2, x3⟩ := hbox
    have hblt := World.block_lt_of_cell? _ _ x0
    have HPW : Hid (Pure w3 wx) := Lib.hid (Hwx.out ▸ HPX.out)
    have HCx := Lib.hid (HC.out.keep (HP3.out.trans HPW.out))
    have HPX3 := Lib.hid (HP3.out.trans HPW.out)
    obtain ⟨es, HES⟩ : ∃ es, Hid (cs ++ [mulC r] = es) := ⟨_, Lib.hid rfl⟩
    have hes : es.length ≤ 1048576 := by rw [← HES.out]; simp; omega
    have hmo := more_ok (r := r) HOK.out hreg (by omega)
    rw [HES.out] at hmo
    obtain ⟨hokE, ⟨Rl, hH⟩, hcost⟩ := hmo
    obtain ⟨k, Hk⟩ : ∃ k, Hid ((lockOf cs n mem).H.length = k) := ⟨_, Lib.hid rfl⟩
    obtain ⟨M, HMk⟩ : ∃ M, Hid (2 ^ n - 1 = M) := ⟨2 ^ n - 1, Lib.hid rfl⟩
    obtain ⟨LL, HLL⟩ : ∃ LL, Hid ((lockA es n mem).H = LL) := ⟨_, Lib.hid rfl⟩
    have hLL : LL = (lockOf cs n mem).H ++ [(cs.length, 2 ^ n - 1, Rl)] := by rw [← HLL.out, lockA_ok hokE, hH]
    obtain ⟨K, HLK⟩ : ∃ K, Hid (LL.length = K) := ⟨_, Lib.hid rfl⟩
    have hK : K = k + 1 := by rw [← HLK.out, hLL, ← Hk.out]; simp
    have hK0 : 0 < K := by omega
    have hkb : k ≤ 2560 := by rw [← Hk.out]; exact lockOf_len HOK.out.1
    have hkK : (K : Int) - 1 = (k : Int) := by omega
    have hkK1 : (k : Int) < (K : Int) := by omega
    have hkK0 : (0 : Int) ≤ (k : Int) := by omega
    have hgt : (K : Int) > 0 := by omega
    have hLk : LL.getD k default = (cs.length, 2 ^ n - 1, Rl) := by rw [hLL, ← Hk.out]; simp [List.getD_eq_getElem?_getD]
    have HQ0 : Hid ((beatsL LL).getD (k * 2) undef = .int .i64 (cs.length : Int)) := Lib.hid (by rw [getD_of (beat_at LL k (by rw [HLK.out]; omega)).1, hLk])
    have HQ1 : Hid ((beatsL LL).getD (k * 2 + 1) undef = .int .i64 (M : Int)) := Lib.hid (by rw [getD_of (beat_at LL k (by rw [HLK.out]; omega)).2, hLk, HMk.out])
    have HXE : Hid (∀ x', CostP es n mem x' → x' = x + 2) := Lib.hid (fun x' px' => by rw [px'.1 n rfl hokE, hcost, HXV.out]; push_cast; rfl)
    have hxx2 : ((x + 2) == (x + 2)) = true := by simp
    have hxb : x ≤ 1000000 := by rw [HXV.out]; have h1 := costTo_le cs (lockOf cs n mem).H (lockOf cs n mem).H.length; rw [Hk.out] at h1 ⊢; omega
    clear hH hcost hokE hLL hLk hK
    go_wp2_with fail
    rw [Hr.out, Hwx.out, Hbx.out]
    refine region_way (fun w' => w'.cell? ⟨bx, 0, none⟩ = some (.int .i64 4) ∧ w'.cell? ⟨bx, 1, none⟩ = some (.int .i64 r) ∧ w'.cell? ⟨bx, 2, none⟩ = some (.int .i64 0) ∧ w'.cell? ⟨bx, 3, none⟩ = some (.int .i64 0)) [1, 3] 5 6 (fun l => (l.drop 1).take 1 ++ (l.drop 3).take 1) (by kernel_rfl) (by kernel_rfl) (by kernel_rfl) (fun c a d v w h => by cases d <;> exact h) (by exact ⟨x0, x1, x2, x3⟩) ?_
    simp only [List.take_succ_cons, List.take_zero, List.drop_succ_cons, List.drop_zero, List.cons_append, List.nil_append]
    apply held_of
    · exact rfl
    · intro w' hS
      obtain ⟨s0, s1, s2, s3⟩ := hS
      go_simp
      try exact rfl
    try go_simp
    apply held_of
    · exact rfl
    · intro w' hS
      obtain ⟨s0, s1, s2, s3⟩ := hS
      go_simp
      try exact rfl
    try go_simp
    refine held_nil ?_
    refine anyK_two (i := 0) (j := 4) (by kernel_rfl) rfl rfl ?_ ?_
    · go_wp2
      first | refine And.intro (fun _ => ⟨keepP (show Pure wx _ from (by repeat (first | assumption | exact Pure.refl _ | refine Pure.drewN ?_ _ | refine Pure.drew ?_ | refine Pure.alloc ?_ _ | refine Pure.setCell ?_ (by simp <;> omega) _))) x0, keepP (show Pure wx _ from (by repeat (first | assumption | exact Pure.refl _ | refine Pure.drewN ?_ _ | refine Pure.drew ?_ | refine Pure.alloc ?_ _ | refine Pure.setCell ?_ (by simp <;> omega) _))) x1, keepP (show Pure wx _ from (by repeat (first | assumption | exact Pure.refl _ | refine Pure.drewN ?_ _ | refine Pure.drew ?_ | refine Pure.alloc ?_ _ | refine Pure.setCell ?_ (by simp <;> omega) _))) x2, keepP (show Pure wx _ from (by repeat (first | assumption | exact Pure.refl _ | refine Pure.drewN ?_ _ | refine Pure.drew ?_ | refine Pure.alloc ?_ _ | refine Pure.setCell ?_ (by simp <;> omega) _))) x3⟩) ?_ | refine And.intro ⟨keepP (show Pure wx _ from (by repeat (first | assumption | exact Pure.refl _ | refine Pure.drewN ?_ _ | refine Pure.drew ?_ | refine Pure.alloc ?_ _ | refine Pure.setCell ?_ (by simp <;> omega) _))) x0, keepP (show Pure wx _ from (by repeat (first | assumption | exact Pure.refl _ | refine Pure.drewN ?_ _ | refine Pure.drew ?_ | refine Pure.alloc ?_ _ | refine Pure.setCell ?_ (by simp <;> omega) _))) x1, keepP (show Pure wx _ from (by repeat (first | assumption | exact Pure.refl _ | refine Pure.drewN ?_ _ | refine Pure.drew ?_ | refine Pure.alloc ?_ _ | refine Pure.setCell ?_ (by simp <;> omega) _))) x2, keepP (show Pure wx _ from (by repeat (first | assumption | exact Pure.refl _ | refine Pure.drewN ?_ _ | refine Pure.drew ?_ | refine Pure.alloc ?_ _ | refine Pure.setCell ?_ (by simp <;> omega) _))) x3⟩ ?_
      have HE := Lib.hid (OwnO.empty_lit (w := wx.drew) (B := wx.heap.size) (e := 36) (s := 4) (show Pure wx wx.drew from (by repeat (first | assumption | exact Pure.refl _ | refine Pure.drewN ?_ _ | refine Pure.drew ?_ | refine Pure.alloc ?_ _ | refine Pure.setCell ?_ (by simp <;> omega) _))).size)
      refine anyK_two (i := 2) (j := 4) (by kernel_rfl) rfl rfl ?_ ?_
      · try rw [alloc_drew]
        refine wl_appendG elCode rfl _ _ rfl wx.heap.size _ 0 _ rfl (HE.out.pure (w' := (wx.drew.alloc (.cells #[] 36))) (by repeat (first | assumption | exact Pure.refl _ | refine Pure.drewN ?_ _ | refine Pure.drew ?_ | refine Pure.alloc ?_ _ | refine Pure.setCell ?_ (by simp <;> omega) _))) _ rfl (cdf cs) cs.length (Cells.keep HCx.out (show Pure wx (wx.drew.alloc (.cells #[] 36)) from (by repeat (first | assumption | exact Pure.refl _ | refine Pure.drewN ?_ _ | refine Pure.drew ?_ | refine Pure.alloc ?_ _ | refine Pure.setCell ?_ (by simp <;> omega) _)))) (cdf_one cs) (by decide) (by omega) (show Pure wx (wx.drew.alloc (.cells #[] 36)) from (by repeat (first | assumption | exact Pure.refl _ | refine Pure.drewN ?_ _ | refine Pure.drew ?_ | refine Pure.alloc ?_ _ | refine Pure.setCell ?_ (by simp <;> omega) _))).size ?_
        intro v6 w6 r1 r2
        rw [Nat.zero_add, List.nil_append] at r1
        have HO6 := Lib.hid r1
        have HP6 := Lib.hid ((show Pure wx (wx.drew.alloc (.cells #[] 36)) from (by repeat (first | assumption | exact Pure.refl _ | refine Pure.drewN ?_ _ | refine Pure.drew ?_ | refine Pure.alloc ?_ _ | refine Pure.setCell ?_ (by simp <;> omega) _))).grown r2 (fun k hk => (HE.out.lt k hk).1))

        clear r1 r2
        go_wp2
        first | refine And.intro (fun _ => ⟨keepP HP6.out x0, keepP HP6.out x1, keepP HP6.out x2, keepP HP6.out x3⟩) ?_ | refine And.intro ⟨keepP HP6.out x0, keepP HP6.out x1, keepP HP6.out x2, keepP HP6.out x3⟩ ?_
        refine anyK_one (i := 4) (by kernel_rfl) rfl ?_
        go_wp2
        first | refine And.intro (fun _ => ⟨keepP (show Pure wx _ from HP6.out.trans (by exact (by repeat (first | assumption | exact Pure.refl _ | refine Pure.drewN ?_ _ | refine Pure.drew ?_ | refine Pure.alloc ?_ _ | refine Pure.setCell ?_ (by simp <;> omega) _)))) x0, keepP (show Pure wx _ from HP6.out.trans (by exact (by repeat (first | assumption | exact Pure.refl _ | refine Pure.drewN ?_ _ | refine Pure.drew ?_ | refine Pure.alloc ?_ _ | refine Pure.setCell ?_ (by simp <;> omega) _)))) x1, keepP (show Pure wx _ from HP6.out.trans (by exact (by repeat (first | assumption | exact Pure.refl _ | refine Pure.drewN ?_ _ | refine Pure.drew ?_ | refine Pure.alloc ?_ _ | refine Pure.setCell ?_ (by simp <;> omega) _)))) x2, keepP (show Pure wx _ from HP6.out.trans (by exact (by repeat (first | assumption | exact Pure.refl _ | refine Pure.drewN ?_ _ | refine Pure.drew ?_ | refine Pure.alloc ?_ _ | refine Pure.setCell ?_ (by simp <;> omega) _)))) x3⟩) ?_ | refine And.intro ⟨keepP (show Pure wx _ from HP6.out.trans (by exact (by repeat (first | assumption | exact Pure.refl _ | refine Pure.drewN ?_ _ | refine Pure.drew ?_ | refine Pure.alloc ?_ _ | refine Pure.setCell ?_ (by simp <;> omega) _)))) x0, keepP (show Pure wx _ from HP6.out.trans (by exact (by repeat (first | assumption | exact Pure.refl _ | refine Pure.drewN ?_ _ | refine Pure.drew ?_ | refine Pure.alloc ?_ _ | refine Pure.setCell ?_ (by simp <;> omega) _)))) x1, keepP (show Pure wx _ from HP6.out.trans (by exact (by repeat (first | assumption | exact Pure.refl _ | refine Pure.drewN ?_ _ | refine Pure.drew ?_ | refine Pure.alloc ?_ _ | refine Pure.setCell ?_ (by simp <;> omega) _)))) x2, keepP (show Pure wx _ from HP6.out.trans (by exact (by repeat (first | assumption | exact Pure.refl _ | refine Pure.drewN ?_ _ | refine Pure.drew ?_ | refine Pure.alloc ?_ _ | refine Pure.setCell ?_ (by simp <;> omega) _)))) x3⟩ ?_
        have HLc := Lib.hid (codes_one (c := mulC r) (heap_alloc_new w6 (.cells #[.int .i64 4, .int .i64 r, .int .i64 0, .int .i64 0] 36)))
        refine anyK_one (i := 5) (by kernel_rfl) rfl ?_
        refine wl_appendG elCode rfl _ _ rfl wx.heap.size _ cs.length _ rfl (HO6.out.pure (w' := (w6.alloc (.cells #[.int .i64 4, .int .i64 r, .int .i64 0, .int .i64 0] 36))) (by repeat (first | assumption | exact Pure.refl _ | refine Pure.drewN ?_ _ | refine Pure.drew ?_ | refine Pure.alloc ?_ _ | refine Pure.setCell ?_ (by simp <;> omega) _))) _ rfl (cdf [mulC r]) 1 (Cells.keep HLc.out (Pure.refl _)) (cdf_one [mulC r]) (by decide) (by omega) (show Pure wx (w6.alloc (.cells #[.int .i64 4, .int .i64 r, .int .i64 0, .int .i64 0] 36)) from HP6.out.trans (by repeat (first | assumption | exact Pure.refl _ | refine Pure.drewN ?_ _ | refine Pure.drew ?_ | refine Pure.alloc ?_ _ | refine Pure.setCell ?_ (by simp <;> omega) _))).size ?_
        intro v7 w7 r1 r2
        have HP7 := Lib.hid ((show Pure wx (w6.alloc (.cells #[.int .i64 4, .int .i64 r, .int .i64 0, .int .i64 0] 36)) from HP6.out.trans (by repeat (first | assumption | exact Pure.refl _ | refine Pure.drewN ?_ _ | refine Pure.drew ?_ | refine Pure.alloc ?_ _ | refine Pure.setCell ?_ (by simp <;> omega) _))).grown r2 (fun k hk => (HO6.out.lt k hk).1))
        have HC7 : Hid (Codes w7 v7 es) := Lib.hid (HES.out ▸ mo_open (cs := cs) (ds := [mulC r]) rfl r1 (by simp))
        clear r1 r2
        go_wp2
        first | refine And.intro (fun _ => ⟨keepP HP7.out x0, keepP HP7.out x1, keepP HP7.out x2, keepP HP7.out x3⟩) ?_ | refine And.intro ⟨keepP HP7.out x0, keepP HP7.out x1, keepP HP7.out x2, keepP HP7.out x3⟩ ?_
        refine anyK_one (i := 6) (by kernel_rfl) rfl ?_
        go_wp2
        refine And.intro (fun h => absurd rfl h) ?_
        refine anyK_end (by kernel_rfl) ?_

        go_wp2_with fail
        refine (itra_any _ _ es n mem _ HC7.out (HM.out.keep (HPX3.out.trans HP7.out)) hes (by omega)).mono ?_
        rintro e w8 ⟨v8, rfl, ho8, hp8⟩
        rw [HLL.out] at ho8
        have hf8 := Flat.of_own ho8
        rw [HLK.out] at hf8
        obtain ⟨A8, c8, rfl, hn8', hm8'⟩ := hf8.form
        obtain ⟨b', o', rfl, hb', hc'⟩ := hf8.at_ hK0
        have q0 := hc' (k * 2) (by omega)
        have q1 := hc' (k * 2 + 1) (by omega)
        rw [HQ0.out] at q0
        rw [HQ1.out, ← Nat.add_assoc] at q1
        have HP8 := Lib.hid ((HPX3.out.trans HP7.out).trans hp8)
        have HPW8 := Lib.hid (HP7.out.trans hp8)
        have HTC : Hid (∀ u, Pure w8 u → Calls Try.prog 41 #[v7, .int .i64 n, .slice Am mem.length cm] u fun e w' => e = .returned (.int .i64 (x + 2)) ∧ Pure u w') := Lib.hid (fun u hu => (itc_any _ _ es n mem _ ((HC7.out.keep hp8).keep hu) (HM.out.keep (HP8.out.trans hu)) hes (by omega)).mono (by
          rintro e w' ⟨x', rfl, px', hp'⟩
          exact ⟨by rw [HXE.out x' px'], hp'⟩))
        clear ho8 hf8 hc' hp8
        go_wp2
        refine region_pure [v7, .int .i64 (n : Int), .slice Am mem.length cm, .int .i64 (x + 2), .int .i64 x, .int .i64 (x + 2), .bool true, .bool true, .slice (some ⟨b', o', none⟩) K c8, .int .i64 (K : Int), .bool true, .bool true, .bool true, .slice (some ⟨b', o', none⟩) K c8, .slice (some ⟨b', o', none⟩) K c8, .int .i64 (K : Int), .int .i64 (k : Int), .pointer (some ⟨b', o' + k * 2, none⟩), .agg #[.int .i64 (cs.length : Int), .int .i64 (M : Int)], .slice Ac cs.length cc, .int .i64 (cs.length : Int), .int .i64 (n : Int), .int .i64 (M : Int), .agg #[.int .i64 (cs.length : Int), .int .i64 (M : Int)], .bool true, .bool true, .bool true] (Pure w8) (by kernel_rfl) (by kernel_rfl) rfl (by kernel_rfl) (Pure.drew (Pure.refl _)) ?_ ?_ (by kernel_rfl)
        · simp only [foldPut, Act.put, List.setIfInBounds_toArray, List.set_cons_succ, List.set_cons_zero]
          refine ⟨fun u hu => ?_, fun u hu => ?_, fun u hu => ?_, fun u hu => ?_, fun u hu => ?_, fun u hu => ?_, fun u hu => ?_, fun u hu => ?_, fun u hu => ?_, fun u hu => ?_, fun u hu => ?_, fun u hu => ?_, fun u hu => ?_, fun u hu => ?_, fun u hu => ?_, fun u hu => ?_, fun u hu => ?_, fun u hu => ?_, fun u hu => ?_, fun u hu => ?_, fun u hu => ?_, fun u hu => ?_, fun u hu => ?_, fun u hu => ?_, fun u hu => ?_, fun u hu => ?_, fun u hu => ?_, trivial⟩
          all_goals
            have q0u := keepPc hu q0
            have q1u := keepPc hu q1
            go_wp2_with (first | (go_at_call 41; refine (HTC.out _ hu).mono ?_; rintro e w9 ⟨rfl, hp9⟩; have hu := hu.trans hp9) | (go_at_call 22; refine (imaskall_any n _ hn1 hn8).mono ?_; rintro e w9 ⟨rfl, rfl⟩; rw [HMk.out]))
            exact ⟨by assumption, rfl⟩
        · intro u hu
          simp only [foldPut, Act.put, List.setIfInBounds_toArray, List.set_cons_succ, List.set_cons_zero]
          go_wp2
          go_ret
          exact ⟨rfl, (HP1.out.trans HP8.out).trans hu⟩
      · go_wp2
        first | refine And.intro (fun _ => ⟨keepP (show Pure wx _ from (by repeat (first | assumption | exact Pure.refl _ | refine Pure.drewN ?_ _ | refine Pure.drew ?_ | refine Pure.alloc ?_ _ | refine Pure.setCell ?_ (by simp <;> omega) _))) x0, keepP (show Pure wx _ from (by repeat (first | assumption | exact Pure.refl _ | refine Pure.drewN ?_ _ | refine Pure.drew ?_ | refine Pure.alloc ?_ _ | refine Pure.setCell ?_ (by simp <;> omega) _))) x1, keepP (show Pure wx _ from (by repeat (first | assumption | exact Pure.refl _ | refine Pure.drewN ?_ _ | refine Pure.drew ?_ | refine Pure.alloc ?_ _ | refine Pure.setCell ?_ (by simp <;> omega) _))) x2, keepP (show Pure wx _ from (by repeat (first | assumption | exact Pure.refl _ | refine Pure.drewN ?_ _ | refine Pure.drew ?_ | refine Pure.alloc ?_ _ | refine Pure.setCell ?_ (by simp <;> omega) _))) x3⟩) ?_ | refine And.intro ⟨keepP (show Pure wx _ from (by repeat (first | assumption | exact Pure.refl _ | refine Pure.drewN ?_ _ | refine Pure.drew ?_ | refine Pure.alloc ?_ _ | refine Pure.setCell ?_ (by simp <;> omega) _))) x0, keepP (show Pure wx _ from (by repeat (first | assumption | exact Pure.refl _ | refine Pure.drewN ?_ _ | refine Pure.drew ?_ | refine Pure.alloc ?_ _ | refine Pure.setCell ?_ (by simp <;> omega) _))) x1, keepP (show Pure wx _ from (by repeat (first | assumption | exact Pure.refl _ | refine Pure.drewN ?_ _ | refine Pure.drew ?_ | refine Pure.alloc ?_ _ | refine Pure.setCell ?_ (by simp <;> omega) _))) x2, keepP (show Pure wx _ from (by repeat (first | assumption | exact Pure.refl _ | refine Pure.drewN ?_ _ | refine Pure.drew ?_ | refine Pure.alloc ?_ _ | refine Pure.setCell ?_ (by simp <;> omega) _))) x3⟩ ?_
        have HLo := Lib.hid (OwnO.lit (e := 36) (s := 4) (B := (wx.drew.alloc (.cells #[] 36)).heap.size) (wx.drew.alloc (.cells #[] 36)) #[.int .i64 4, .int .i64 r, .int .i64 0, .int .i64 0] 1 (Nat.le_refl _) (by decide) rfl)
        refine anyK_one (i := 2) (by kernel_rfl) rfl ?_
        try rw [alloc_drew]
        refine wl_appendG elCode rfl _ _ rfl wx.heap.size _ 0 _ rfl (HE.out.pure (w' := ((wx.drew.alloc (.cells #[] 36)).alloc (.cells #[.int .i64 4, .int .i64 r, .int .i64 0, .int .i64 0] 36))) (by repeat (first | assumption | exact Pure.refl _ | refine Pure.drewN ?_ _ | refine Pure.drew ?_ | refine Pure.alloc ?_ _ | refine Pure.setCell ?_ (by simp <;> omega) _))) _ rfl (cdf cs) cs.length (Cells.keep HCx.out (show Pure wx ((wx.drew.alloc (.cells #[] 36)).alloc (.cells #[.int .i64 4, .int .i64 r, .int .i64 0, .int .i64 0] 36)) from (by repeat (first | assumption | exact Pure.refl _ | refine Pure.drewN ?_ _ | refine Pure.drew ?_ | refine Pure.alloc ?_ _ | refine Pure.setCell ?_ (by simp <;> omega) _)))) (cdf_one cs) (by decide) (by omega) (show Pure wx ((wx.drew.alloc (.cells #[] 36)).alloc (.cells #[.int .i64 4, .int .i64 r, .int .i64 0, .int .i64 0] 36)) from (by repeat (first | assumption | exact Pure.refl _ | refine Pure.drewN ?_ _ | refine Pure.drew ?_ | refine Pure.alloc ?_ _ | refine Pure.setCell ?_ (by simp <;> omega) _))).size ?_
        intro v6 w6 r1 r2
        rw [Nat.zero_add, List.nil_append] at r1
        have HO6 := Lib.hid r1
        have HP6 := Lib.hid ((show Pure wx ((wx.drew.alloc (.cells #[] 36)).alloc (.cells #[.int .i64 4, .int .i64 r, .int .i64 0, .int .i64 0] 36)) from (by repeat (first | assumption | exact Pure.refl _ | refine Pure.drewN ?_ _ | refine Pure.drew ?_ | refine Pure.alloc ?_ _ | refine Pure.setCell ?_ (by simp <;> omega) _))).grown r2 (fun k hk => (HE.out.lt k hk).1))
        have hsz : (wx.drew.alloc (.cells #[] 36)).heap.size = wx.heap.size + 1 := by simp
        have HLd : Hid (Codes w6 (.slice (some ⟨wx.heap.size + 1, 0, none⟩) 1 1) [mulC r]) := Lib.hid (by
          have h := HLo.out.kept r2 (own_apart' HE.out HLo.out (Nat.le_refl _))
          rw [hsz] at h
          exact Codes.of_ownO h rfl (flat_cdf [mulC r]))
        clear r1 r2
        go_wp2
        first | refine And.intro (fun _ => ⟨keepP HP6.out x0, keepP HP6.out x1, keepP HP6.out x2, keepP HP6.out x3⟩) ?_ | refine And.intro ⟨keepP HP6.out x0, keepP HP6.out x1, keepP HP6.out x2, keepP HP6.out x3⟩ ?_
        refine anyK_one (i := 5) (by kernel_rfl) rfl ?_
        refine wl_appendG elCode rfl _ _ rfl wx.heap.size _ cs.length _ rfl (HO6.out.pure (w' := w6) (Pure.refl _)) _ rfl (cdf [mulC r]) 1 (Cells.keep HLd.out (Pure.refl _)) (cdf_one [mulC r]) (by decide) (by omega) (show Pure wx w6 from HP6.out).size ?_
        intro v7 w7 r1 r2
        have HP7 := Lib.hid ((show Pure wx w6 from HP6.out).grown r2 (fun k hk => (HO6.out.lt k hk).1))
        have HC7 : Hid (Codes w7 v7 es) := Lib.hid (HES.out ▸ mo_open (cs := cs) (ds := [mulC r]) rfl r1 (by simp))
        clear r1 r2
        go_wp2
        first | refine And.intro (fun _ => ⟨keepP HP7.out x0, keepP HP7.out x1, keepP HP7.out x2, keepP HP7.out x3⟩) ?_ | refine And.intro ⟨keepP HP7.out x0, keepP HP7.out x1, keepP HP7.out x2, keepP HP7.out x3⟩ ?_
        refine anyK_one (i := 6) (by kernel_rfl) rfl ?_
        go_wp2
        refine And.intro (fun h => absurd rfl h) ?_
        refine anyK_end (by kernel_rfl) ?_

        go_wp2_with fail
        refine (itra_any _ _ es n mem _ HC7.out (HM.out.keep (HPX3.out.trans HP7.out)) hes (by omega)).mono ?_
        rintro e w8 ⟨v8, rfl, ho8, hp8⟩
        rw [HLL.out] at ho8
        have hf8 := Flat.of_own ho8
        rw [HLK.out] at hf8
        obtain ⟨A8, c8, rfl, hn8', hm8'⟩ := hf8.form
        obtain ⟨b', o', rfl, hb', hc'⟩ := hf8.at_ hK0
        have q0 := hc' (k * 2) (by omega)
        have q1 := hc' (k * 2 + 1) (by omega)
        rw [HQ0.out] at q0
        rw [HQ1.out, ← Nat.add_assoc] at q1
        have HP8 := Lib.hid ((HPX3.out.trans HP7.out).trans hp8)
        have HPW8 := Lib.hid (HP7.out.trans hp8)
        have HTC : Hid (∀ u, Pure w8 u → Calls Try.prog 41 #[v7, .int .i64 n, .slice Am mem.length cm] u fun e w' => e = .returned (.int .i64 (x + 2)) ∧ Pure u w') := Lib.hid (fun u hu => (itc_any _ _ es n mem _ ((HC7.out.keep hp8).keep hu) (HM.out.keep (HP8.out.trans hu)) hes (by omega)).mono (by
          rintro e w' ⟨x', rfl, px', hp'⟩
          exact ⟨by rw [HXE.out x' px'], hp'⟩))
        clear ho8 hf8 hc' hp8
        go_wp2
        refine region_pure [v7, .int .i64 (n : Int), .slice Am mem.length cm, .int .i64 (x + 2), .int .i64 x, .int .i64 (x + 2), .bool true, .bool true, .slice (some ⟨b', o', none⟩) K c8, .int .i64 (K : Int), .bool true, .bool true, .bool true, .slice (some ⟨b', o', none⟩) K c8, .slice (some ⟨b', o', none⟩) K c8, .int .i64 (K : Int), .int .i64 (k : Int), .pointer (some ⟨b', o' + k * 2, none⟩), .agg #[.int .i64 (cs.length : Int), .int .i64 (M : Int)], .slice Ac cs.length cc, .int .i64 (cs.length : Int), .int .i64 (n : Int), .int .i64 (M : Int), .agg #[.int .i64 (cs.length : Int), .int .i64 (M : Int)], .bool true, .bool true, .bool true] (Pure w8) (by kernel_rfl) (by kernel_rfl) rfl (by kernel_rfl) (Pure.drew (Pure.refl _)) ?_ ?_ (by kernel_rfl)
        · simp only [foldPut, Act.put, List.setIfInBounds_toArray, List.set_cons_succ, List.set_cons_zero]
          refine ⟨fun u hu => ?_, fun u hu => ?_, fun u hu => ?_, fun u hu => ?_, fun u hu => ?_, fun u hu => ?_, fun u hu => ?_, fun u hu => ?_, fun u hu => ?_, fun u hu => ?_, fun u hu => ?_, fun u hu => ?_, fun u hu => ?_, fun u hu => ?_, fun u hu => ?_, fun u hu => ?_, fun u hu => ?_, fun u hu => ?_, fun u hu => ?_, fun u hu => ?_, fun u hu => ?_, fun u hu => ?_, fun u hu => ?_, fun u hu => ?_, fun u hu => ?_, fun u hu => ?_, fun u hu => ?_, trivial⟩
          all_goals
            have q0u := keepPc hu q0
            have q1u := keepPc hu q1
            go_wp2_with (first | (go_at_call 41; refine (HTC.out _ hu).mono ?_; rintro e w9 ⟨rfl, hp9⟩; have hu := hu.trans hp9) | (go_at_call 22; refine (imaskall_any n _ hn1 hn8).mono ?_; rintro e w9 ⟨rfl, rfl⟩; rw [HMk.out]))
            exact ⟨by assumption, rfl⟩
        · intro u hu
          simp only [foldPut, Act.put, List.setIfInBounds_toArray, List.set_cons_succ, List.set_cons_zero]
          go_wp2
          go_ret
          exact ⟨rfl, (HP1.out.trans HP8.out).trans hu⟩
    · go_wp2
      first | refine And.intro (fun _ => ⟨keepP (show Pure wx _ from (by repeat (first | assumption | exact Pure.refl _ | refine Pure.drewN ?_ _ | refine Pure.drew ?_ | refine Pure.alloc ?_ _ | refine Pure.setCell ?_ (by simp <;> omega) _))) x0, keepP (show Pure wx _ from (by repeat (first | assumption | exact Pure.refl _ | refine Pure.drewN ?_ _ | refine Pure.drew ?_ | refine Pure.alloc ?_ _ | refine Pure.setCell ?_ (by simp <;> omega) _))) x1, keepP (show Pure wx _ from (by repeat (first | assumption | exact Pure.refl _ | refine Pure.drewN ?_ _ | refine Pure.drew ?_ | refine Pure.alloc ?_ _ | refine Pure.setCell ?_ (by simp <;> omega) _))) x2, keepP (show Pure wx _ from (by repeat (first | assumption | exact Pure.refl _ | refine Pure.drewN ?_ _ | refine Pure.drew ?_ | refine Pure.alloc ?_ _ | refine Pure.setCell ?_ (by simp <;> omega) _))) x3⟩) ?_ | refine And.intro ⟨keepP (show Pure wx _ from (by repeat (first | assumption | exact Pure.refl _ | refine Pure.drewN ?_ _ | refine Pure.drew ?_ | refine Pure.alloc ?_ _ | refine Pure.setCell ?_ (by simp <;> omega) _))) x0, keepP (show Pure wx _ from (by repeat (first | assumption | exact Pure.refl _ | refine Pure.drewN ?_ _ | refine Pure.drew ?_ | refine Pure.alloc ?_ _ | refine Pure.setCell ?_ (by simp <;> omega) _))) x1, keepP (show Pure wx _ from (by repeat (first | assumption | exact Pure.refl _ | refine Pure.drewN ?_ _ | refine Pure.drew ?_ | refine Pure.alloc ?_ _ | refine Pure.setCell ?_ (by simp <;> omega) _))) x2, keepP (show Pure wx _ from (by repeat (first | assumption | exact Pure.refl _ | refine Pure.drewN ?_ _ | refine Pure.drew ?_ | refine Pure.alloc ?_ _ | refine Pure.setCell ?_ (by simp <;> omega) _))) x3⟩ ?_
      have HLo := Lib.hid (OwnO.lit (e := 36) (s := 4) (B := wx.heap.size) wx.drew #[.int .i64 4, .int .i64 r, .int .i64 0, .int .i64 0] 1 (Nat.le_refl _) (by decide) rfl)
      refine anyK_one (i := 0) (by kernel_rfl) rfl ?_
      go_wp2
      first | refine And.intro (fun _ => ⟨keepP (show Pure wx _ from (by repeat (first | assumption | exact Pure.refl _ | refine Pure.drewN ?_ _ | refine Pure.drew ?_ | refine Pure.alloc ?_ _ | refine Pure.setCell ?_ (by simp <;> omega) _))) x0, keepP (show Pure wx _ from (by repeat (first | assumption | exact Pure.refl _ | refine Pure.drewN ?_ _ | refine Pure.drew ?_ | refine Pure.alloc ?_ _ | refine Pure.setCell ?_ (by simp <;> omega) _))) x1, keepP (show Pure wx _ from (by repeat (first | assumption | exact Pure.refl _ | refine Pure.drewN ?_ _ | refine Pure.drew ?_ | refine Pure.alloc ?_ _ | refine Pure.setCell ?_ (by simp <;> omega) _))) x2, keepP (show Pure wx _ from (by repeat (first | assumption | exact Pure.refl _ | refine Pure.drewN ?_ _ | refine Pure.drew ?_ | refine Pure.alloc ?_ _ | refine Pure.setCell ?_ (by simp <;> omega) _))) x3⟩) ?_ | refine And.intro ⟨keepP (show Pure wx _ from (by repeat (first | assumption | exact Pure.refl _ | refine Pure.drewN ?_ _ | refine Pure.drew ?_ | refine Pure.alloc ?_ _ | refine Pure.setCell ?_ (by simp <;> omega) _))) x0, keepP (show Pure wx _ from (by repeat (first | assumption | exact Pure.refl _ | refine Pure.drewN ?_ _ | refine Pure.drew ?_ | refine Pure.alloc ?_ _ | refine Pure.setCell ?_ (by simp <;> omega) _))) x1, keepP (show Pure wx _ from (by repeat (first | assumption | exact Pure.refl _ | refine Pure.drewN ?_ _ | refine Pure.drew ?_ | refine Pure.alloc ?_ _ | refine Pure.setCell ?_ (by simp <;> omega) _))) x2, keepP (show Pure wx _ from (by repeat (first | assumption | exact Pure.refl _ | refine Pure.drewN ?_ _ | refine Pure.drew ?_ | refine Pure.alloc ?_ _ | refine Pure.setCell ?_ (by simp <;> omega) _))) x3⟩ ?_
      have HE0 := Lib.hid (OwnO.empty_lit (w := (wx.drew.alloc (.cells #[.int .i64 4, .int .i64 r, .int .i64 0, .int .i64 0] 36))) (B := (wx.drew.alloc (.cells #[.int .i64 4, .int .i64 r, .int .i64 0, .int .i64 0] 36)).heap.size) (e := 36) (s := 4) (Nat.le_refl _))
      have hsz : (wx.drew.alloc (.cells #[.int .i64 4, .int .i64 r, .int .i64 0, .int .i64 0] 36)).heap.size = wx.heap.size + 1 := by simp
      have HE : Hid (OwnO ((wx.drew.alloc (.cells #[.int .i64 4, .int .i64 r, .int .i64 0, .int .i64 0] 36)).alloc (.cells #[] 36)) wx.heap.size 36 4 (.slice (some ⟨wx.heap.size + 1, 0, none⟩) 0 0) 0 []) := Lib.hid (by have h := HE0.out.base' (B' := wx.heap.size) (by omega); rw [hsz] at h; exact h)
      refine anyK_one (i := 2) (by kernel_rfl) rfl ?_
      try rw [alloc_drew]
      refine wl_appendG elCode rfl _ _ rfl wx.heap.size _ 0 _ rfl (HE.out.pure (w' := ((wx.drew.alloc (.cells #[.int .i64 4, .int .i64 r, .int .i64 0, .int .i64 0] 36)).alloc (.cells #[] 36))) (by repeat (first | assumption | exact Pure.refl _ | refine Pure.drewN ?_ _ | refine Pure.drew ?_ | refine Pure.alloc ?_ _ | refine Pure.setCell ?_ (by simp <;> omega) _))) _ rfl (cdf cs) cs.length (Cells.keep HCx.out (show Pure wx ((wx.drew.alloc (.cells #[.int .i64 4, .int .i64 r, .int .i64 0, .int .i64 0] 36)).alloc (.cells #[] 36)) from (by repeat (first | assumption | exact Pure.refl _ | refine Pure.drewN ?_ _ | refine Pure.drew ?_ | refine Pure.alloc ?_ _ | refine Pure.setCell ?_ (by simp <;> omega) _)))) (cdf_one cs) (by decide) (by omega) (show Pure wx ((wx.drew.alloc (.cells #[.int .i64 4, .int .i64 r, .int .i64 0, .int .i64 0] 36)).alloc (.cells #[] 36)) from (by repeat (first | assumption | exact Pure.refl _ | refine Pure.drewN ?_ _ | refine Pure.drew ?_ | refine Pure.alloc ?_ _ | refine Pure.setCell ?_ (by simp <;> omega) _))).size ?_
      intro v6 w6 r1 r2
      rw [Nat.zero_add, List.nil_append] at r1
      have HO6 := Lib.hid r1
      have HP6 := Lib.hid ((show Pure wx ((wx.drew.alloc (.cells #[.int .i64 4, .int .i64 r, .int .i64 0, .int .i64 0] 36)).alloc (.cells #[] 36)) from (by repeat (first | assumption | exact Pure.refl _ | refine Pure.drewN ?_ _ | refine Pure.drew ?_ | refine Pure.alloc ?_ _ | refine Pure.setCell ?_ (by simp <;> omega) _))).grown r2 (fun k hk => (HE.out.lt k hk).1))
      have HLd : Hid (Codes w6 (.slice (some ⟨wx.heap.size, 0, none⟩) 1 1) [mulC r]) := Lib.hid (by
        have h := (HLo.out.pure (w' := ((wx.drew.alloc (.cells #[.int .i64 4, .int .i64 r, .int .i64 0, .int .i64 0] 36)).alloc (.cells #[] 36))) (by repeat (first | assumption | exact Pure.refl _ | refine Pure.drewN ?_ _ | refine Pure.drew ?_ | refine Pure.alloc ?_ _ | refine Pure.setCell ?_ (by simp <;> omega) _))).kept r2 (by have := own_apart HLo.out HE0.out (Nat.le_refl _); rw [hsz] at this; exact this)
        exact Codes.of_ownO h rfl (flat_cdf [mulC r]))
      clear r1 r2
      go_wp2
      first | refine And.intro (fun _ => ⟨keepP HP6.out x0, keepP HP6.out x1, keepP HP6.out x2, keepP HP6.out x3⟩) ?_ | refine And.intro ⟨keepP HP6.out x0, keepP HP6.out x1, keepP HP6.out x2, keepP HP6.out x3⟩ ?_
      refine anyK_one (i := 5) (by kernel_rfl) rfl ?_
      refine wl_appendG elCode rfl _ _ rfl wx.heap.size _ cs.length _ rfl (HO6.out.pure (w' := w6) (Pure.refl _)) _ rfl (cdf [mulC r]) 1 (Cells.keep HLd.out (Pure.refl _)) (cdf_one [mulC r]) (by decide) (by omega) (show Pure wx w6 from HP6.out).size ?_
      intro v7 w7 r1 r2
      have HP7 := Lib.hid ((show Pure wx w6 from HP6.out).grown r2 (fun k hk => (HO6.out.lt k hk).1))
      have HC7 : Hid (Codes w7 v7 es) := Lib.hid (HES.out ▸ mo_open (cs := cs) (ds := [mulC r]) rfl r1 (by simp))
      clear r1 r2
      go_wp2
      first | refine And.intro (fun _ => ⟨keepP HP7.out x0, keepP HP7.out x1, keepP HP7.out x2, keepP HP7.out x3⟩) ?_ | refine And.intro ⟨keepP HP7.out x0, keepP HP7.out x1, keepP HP7.out x2, keepP HP7.out x3⟩ ?_
      refine anyK_one (i := 6) (by kernel_rfl) rfl ?_
      go_wp2
      refine And.intro (fun h => absurd rfl h) ?_
      refine anyK_end (by kernel_rfl) ?_

      go_wp2_with fail
      refine (itra_any _ _ es n mem _ HC7.out (HM.out.keep (HPX3.out.trans HP7.out)) hes (by omega)).mono ?_
      rintro e w8 ⟨v8, rfl, ho8, hp8⟩
      rw [HLL.out] at ho8
      have hf8 := Flat.of_own ho8
      rw [HLK.out] at hf8
      obtain ⟨A8, c8, rfl, hn8', hm8'⟩ := hf8.form
      obtain ⟨b', o', rfl, hb', hc'⟩ := hf8.at_ hK0
      have q0 := hc' (k * 2) (by omega)
      have q1 := hc' (k * 2 + 1) (by omega)
      rw [HQ0.out] at q0
      rw [HQ1.out, ← Nat.add_assoc] at q1
      have HP8 := Lib.hid ((HPX3.out.trans HP7.out).trans hp8)
      have HPW8 := Lib.hid (HP7.out.trans hp8)
      have HTC : Hid (∀ u, Pure w8 u → Calls Try.prog 41 #[v7, .int .i64 n, .slice Am mem.length cm] u fun e w' => e = .returned (.int .i64 (x + 2)) ∧ Pure u w') := Lib.hid (fun u hu => (itc_any _ _ es n mem _ ((HC7.out.keep hp8).keep hu) (HM.out.keep (HP8.out.trans hu)) hes (by omega)).mono (by
        rintro e w' ⟨x', rfl, px', hp'⟩
        exact ⟨by rw [HXE.out x' px'], hp'⟩))
      clear ho8 hf8 hc' hp8
      go_wp2
      refine region_pure [v7, .int .i64 (n : Int), .slice Am mem.length cm, .int .i64 (x + 2), .int .i64 x, .int .i64 (x + 2), .bool true, .bool true, .slice (some ⟨b', o', none⟩) K c8, .int .i64 (K : Int), .bool true, .bool true, .bool true, .slice (some ⟨b', o', none⟩) K c8, .slice (some ⟨b', o', none⟩) K c8, .int .i64 (K : Int), .int .i64 (k : Int), .pointer (some ⟨b', o' + k * 2, none⟩), .agg #[.int .i64 (cs.length : Int), .int .i64 (M : Int)], .slice Ac cs.length cc, .int .i64 (cs.length : Int), .int .i64 (n : Int), .int .i64 (M : Int), .agg #[.int .i64 (cs.length : Int), .int .i64 (M : Int)], .bool true, .bool true, .bool true] (Pure w8) (by kernel_rfl) (by kernel_rfl) rfl (by kernel_rfl) (Pure.drew (Pure.refl _)) ?_ ?_ (by kernel_rfl)
      · simp only [foldPut, Act.put, List.setIfInBounds_toArray, List.set_cons_succ, List.set_cons_zero]
        refine ⟨fun u hu => ?_, fun u hu => ?_, fun u hu => ?_, fun u hu => ?_, fun u hu => ?_, fun u hu => ?_, fun u hu => ?_, fun u hu => ?_, fun u hu => ?_, fun u hu => ?_, fun u hu => ?_, fun u hu => ?_, fun u hu => ?_, fun u hu => ?_, fun u hu => ?_, fun u hu => ?_, fun u hu => ?_, fun u hu => ?_, fun u hu => ?_, fun u hu => ?_, fun u hu => ?_, fun u hu => ?_, fun u hu => ?_, fun u hu => ?_, fun u hu => ?_, fun u hu => ?_, fun u hu => ?_, trivial⟩
        all_goals
          have q0u := keepPc hu q0
          have q1u := keepPc hu q1
          go_wp2_with (first | (go_at_call 41; refine (HTC.out _ hu).mono ?_; rintro e w9 ⟨rfl, hp9⟩; have hu := hu.trans hp9) | (go_at_call 22; refine (imaskall_any n _ hn1 hn8).mono ?_; rintro e w9 ⟨rfl, rfl⟩; rw [HMk.out]))
          exact ⟨by assumption, rfl⟩
      · intro u hu
        simp only [foldPut, Act.put, List.setIfInBounds_toArray, List.set_cons_succ, List.set_cons_zero]
        go_wp2
        go_ret
        exact ⟨rfl, (HP1.out.trans HP8.out).trans hu⟩
  · have HOK := Lib.hid hok
    have hxm : x = -1 := HX.out.2 hok
    subst hxm
    clear hok
    go_wp2_with fail
    refine (alive_any _).mono ?_
    rintro e w9 ⟨rfl, hp9⟩
    go_wp2
    go_ret
    exact ⟨rfl, (HP1.out.trans (HP3.out.trans (by exact (by repeat (first | assumption | exact Pure.refl _ | refine Pure.drewN ?_ _ | refine Pure.drew ?_ | refine Pure.alloc ?_ _ | refine Pure.setCell ?_ (by simp <;> omega) _))))).trans hp9⟩

end Go.Proofs.Ytkolnakcgjlcgaa

namespace Go.Proofs.Ytkolnakcgjlcgaa.rowFnTraceMore
open Go.ChangeShapes Go.WideShapes Go.ChangeAt Go.RowKit Go.Deep

set_option maxRecDepth 100000 in
theorem lifted (os : Os) (started : os.Started) (H : Type) (enc : TypeId × Value → H) :
    ReturnsInHanded {} Try.checked os 8 .any (Rows.fnTraceMoreSpec.pre6 enc Try.prog Try.f8 Rows.fnTraceMoreRow.domain false) (Rows.fnTraceMoreSpec.post enc Try.prog Try.f8 false true false false) := by
  refine returnsInHanded_of_change (C := Try.checked) own_knob started (by kernel_rfl) Try.func8
    (ChangeSpec.witness6 (enc := enc) (C := Try.checked) false ⟨#[], #[.slice none 0 0, .slice none 0 0], []⟩ 8 (by kernel_rfl) (by kernel_rfl) (by kernel_rfl) (by kernel_rfl)) ?_
  intro W base args ds gs before hval0 hW hcnd _
  have hval : ∀ (j : Nat) t v, Try.f8.params[j]? = some t → args[j]? = some v → Value.okWide Try.prog W .any base t v := hval0
  have hW' := hW
  obtain ⟨p, q, hA0, hV, rfl, hfz, hnd⟩ := hW
  have hA : DataW.TrodAll enc Try.prog W 0 (fun _ => true) true Try.f8.params.toList args.toList ds p := hA0
  rw [Try.params8] at hA hval
  obtain ⟨v0, vs0, d0, ds0, p0, q0, hargs, rfl, rfl, h0, r0⟩ := trodAll_cons hA
  obtain ⟨v1, vs1, d1, ds1, p1, q1, rfl, rfl, rfl, h1, r1⟩ := trodAll_cons r0
  obtain ⟨rfl, rfl, rfl⟩ := trodAll_nil r1
  obtain rfl : args = #[v0, v1] := by cases args; simp_all
  obtain ⟨rfl, rfl⟩ := trodVars_none hV
  have k0 := h0
  have lt0 : ∀ x ∈ p0, x.block < W.heap.size := by obtain ⟨m, hm⟩ := k0; exact DataW.trod_lt m _ _ _ hm
  obtain ⟨A0, len0, cap0, rfl⟩ := okWide_slice Try.underlying22 (hval 0 22 v0 rfl rfl)
  obtain ⟨x0, w0⟩ : ∃ xs, Bytes W (.slice A0 len0 cap0) xs := by
    obtain ⟨fuel, hf⟩ := h0
    obtain ⟨v, xs, hcs, hx⟩ := bytes_open hf
    simp [Value.cells] at hcs
    subst hcs
    exact ⟨xs, hx⟩
  have k1 := h1
  have lt1 : ∀ x ∈ p1, x.block < W.heap.size := by obtain ⟨m, hm⟩ := k1; exact DataW.trod_lt m _ _ _ hm
  obtain ⟨A1, len1, cap1, rfl⟩ := okWide_slice Try.underlying22 (hval 1 22 v1 rfl rfl)
  obtain ⟨x1, w1⟩ : ∃ xs, Bytes W (.slice A1 len1 cap1) xs := by
    obtain ⟨fuel, hf⟩ := h1
    obtain ⟨v, xs, hcs, hx⟩ := bytes_open hf
    simp [Value.cells] at hcs
    subst hcs
    exact ⟨xs, hx⟩
  clear hA0 hval0
  refine (law_FnTraceMore _ x0 _ x1 W w0 w1).mono fun e W' ⟨he, bel⟩ => ?_
  subst he
  have bel' : Below W.heap.size W W' := bel
  exact ⟨_, rfl, _, _, _, [], _, [], hW', trodAll_mk1 (shut_bool Try.underlying4 _), (trodAll_cons_mk (Below.trod laid_out (by kernel_rfl) (of_decide_eq_true (by kernel_rfl)) k0 bel' lt0) (trodAll_cons_mk (Below.trod laid_out (by kernel_rfl) (of_decide_eq_true (by kernel_rfl)) k1 bel' lt1) trodAll_mk0)), rfl, bel'.frame _, fun h => by cases h⟩

theorem proved : Rows.FnTraceMoreSaid :=
  OpenClaim.holds_of_wide 8 Try.f8 rfl rfl rfl rfl rfl rfl rfl ⟨rfl, rfl, rfl, rfl, rfl⟩ rfl rfl rfl rfl rfl (by kernel_rfl) Try.func8 (by kernel_rfl)
    (of_decide_eq_true (by kernel_rfl)) (by unfold Func.isWrapper; rw [if_neg (of_decide_eq_false (by kernel_rfl))]; exact ⟨rfl, rfl⟩)
    (fun os started H enc _ => lifted os started H enc)

end Go.Proofs.Ytkolnakcgjlcgaa.rowFnTraceMore
