/- The library's sort and compaction of integers, at this program. The cells of races, as the program finds them: there are some exactly with a race. Fewer lanes, plainly: without barriers and loads a program that is free of races is free of them with fewer lanes. No program in sight. No condition. -/
import Derived.Test.YtonmndojlnohcaaChecked
import Derived.Shelf.Sort.Plain
import Derived.Shelf.Slices.CompactI
import Derived.Shelf.Slices.In.SortNone
import Derived.Sort.OwnSortedInts
import Derived.Test.YtonmndojlnohcaaKaa
import Derived.Test.YtonmndojlnohcaaKbf
import Derived.Test.YtonmndojlnohcaaKcg

namespace Go.Proofs.Ytonmndojlnohcaa
open Go.Shelf

def lays189_ren : Go.Shelf.Ren := ⟨fun | 189 => 79 | 125 => 98 | 257 => 97 | 128 => 115 | 129 => 116 | 294 => 106 | 295 => 107 | 296 => 108 | 297 => 109 | 298 => 110 | 299 => 111 | 216 => 112 | 300 => 113 | 301 => 114 | 328 => 121 | 329 => 122 | 330 => 123 | 331 => 124 | 332 => 125 | 215 => 126 | 343 => 127 | n => n, fun | 28 => 24 | 3 => 3 | 46 => 109 | 0 => 0 | 51 => 123 | 53 => 125 | 4 => 4 | 183 => 115 | 182 => 114 | 131 => 120 | 5 => 5 | 9 => 9 | 218 => 127 | 222 => 97 | 228 => 132 | 229 => 104 | n => n, fun | n => n⟩
theorem lays189 : Go.Proofs.Lays.n189 Try.prog lays189_ren := {
  mixed := by kernel_rfl
  f125 := Try.func98.trans (congrArg some (by kernel_rfl))
  f128 := Try.func115.trans (congrArg some (by kernel_rfl))
  f129 := Try.func116.trans (congrArg some (by kernel_rfl))
  f189 := Try.func79.trans (congrArg some (by kernel_rfl))
  f215 := Try.func126.trans (congrArg some (by kernel_rfl))
  f216 := Try.func112.trans (congrArg some (by kernel_rfl))
  f257 := Try.func97.trans (congrArg some (by kernel_rfl))
  f294 := Try.func106.trans (congrArg some (by kernel_rfl))
  f295 := Try.func107.trans (congrArg some (by kernel_rfl))
  f296 := Try.func108.trans (congrArg some (by kernel_rfl))
  f297 := Try.func109.trans (congrArg some (by kernel_rfl))
  f298 := Try.func110.trans (congrArg some (by kernel_rfl))
  f299 := Try.func111.trans (congrArg some (by kernel_rfl))
  f300 := Try.func113.trans (congrArg some (by kernel_rfl))
  f301 := Try.func114.trans (congrArg some (by kernel_rfl))
  f328 := Try.func121.trans (congrArg some (by kernel_rfl))
  f329 := Try.func122.trans (congrArg some (by kernel_rfl))
  f330 := Try.func123.trans (congrArg some (by kernel_rfl))
  f331 := Try.func124.trans (congrArg some (by kernel_rfl))
  f332 := Try.func125.trans (congrArg some (by kernel_rfl))
  f343 := Try.func127.trans (congrArg some (by kernel_rfl))
  t0 := Try.underlying0
  a0 := Try.isAgg0
  z0 := Try.sizeOf0
  v0 := Try.zeroValue0
  t3 := Try.underlying3
  a3 := Try.isAgg3
  z3 := Try.sizeOf3
  v3 := Try.zeroValue3
  t4 := Try.underlying4
  a4 := Try.isAgg4
  z4 := Try.sizeOf4
  v4 := Try.zeroValue4
  t5 := Try.underlying5
  a5 := Try.isAgg5
  z5 := Try.sizeOf5
  v5 := Try.zeroValue5
  t9 := Try.underlying9
  a9 := Try.isAgg9
  z9 := Try.sizeOf9
  v9 := Try.zeroValue9
  t28 := Try.underlying24
  a28 := Try.isAgg24
  z28 := Try.sizeOf24
  v28 := Try.zeroValue24
  t46 := Try.underlying109
  a46 := Try.isAgg109
  z46 := Try.sizeOf109
  v46 := Try.zeroValue109
  t51 := Try.underlying123
  a51 := Try.isAgg123
  z51 := Try.sizeOf123
  v51 := Try.zeroValue123
  t53 := Try.underlying125
  a53 := Try.isAgg125
  z53 := Try.sizeOf125
  v53 := Try.zeroValue125
  t131 := Try.underlying120
  a131 := Try.isAgg120
  z131 := Try.sizeOf120
  v131 := Try.zeroValue120
  t182 := Try.underlying114
  a182 := Try.isAgg114
  z182 := Try.sizeOf114
  v182 := Try.zeroValue114
  t183 := Try.underlying115
  a183 := Try.isAgg115
  z183 := Try.sizeOf115
  v183 := Try.zeroValue115
  t218 := Try.underlying127
  a218 := Try.isAgg127
  z218 := Try.sizeOf127
  v218 := Try.zeroValue127
  t222 := Try.underlying97
  a222 := Try.isAgg97
  z222 := Try.sizeOf97
  v222 := Try.zeroValue97
  t228 := Try.underlying132
  a228 := Try.isAgg132
  z228 := Try.sizeOf132
  v228 := Try.zeroValue132
  t229 := Try.underlying104
  a229 := Try.isAgg104
  z229 := Try.sizeOf104
  v229 := Try.zeroValue104 }
open Go.Sort Go.RowKit in
theorem slices_Sort_int (blk off cap : Nat) (zs : List Int) (w : World) (hH : Holds (Value.int .i64) w blk off zs.toArray) (hblk : blk < w.heap.size) (hsz : zs.length < 4611686018427387904) :
    Calls Try.prog 79 #[.slice (some ⟨blk, off, none⟩) zs.length cap] w fun e w' =>
      e = .returned (.tuple #[]) ∧ ∃ n os, w' = grow (putRow (Value.int .i64) (Sort.ahead w n) blk off (zs.mergeSort fun x y => decide (x ≤ y)).toArray) os := Any.slices_Sort_int lays189 blk off cap zs w hH hblk hsz
def laysNm220_ren : Go.Shelf.Ren := ⟨fun | 20 => 80 | n => n, fun | 22 => 24 | 3 => 3 | 4 => 4 | 0 => 0 | n => n, fun | n => n⟩
theorem laysNm220 : Go.Proofs.Lays2.n20 Try.prog laysNm220_ren := {
  mixed := by kernel_rfl
  f20 := Try.func80.trans (congrArg some (by kernel_rfl))
  t0 := Try.underlying0
  a0 := Try.isAgg0
  z0 := Try.sizeOf0
  v0 := Try.zeroValue0
  t3 := Try.underlying3
  a3 := Try.isAgg3
  z3 := Try.sizeOf3
  v3 := Try.zeroValue3
  t4 := Try.underlying4
  a4 := Try.isAgg4
  z4 := Try.sizeOf4
  v4 := Try.zeroValue4
  t22 := Try.underlying24
  a22 := Try.isAgg24
  z22 := Try.sizeOf24
  v22 := Try.zeroValue24
  i3 := by kernel_rfl }
open Go.RowKit Go.Lib Go.Sort in
theorem slices_Compact_int (blk off cap : Nat) (zs : List Int) (w : World) (hH : Holds (Value.int .i64) w blk off zs.toArray) (hsz : zs.length ≤ 9223372036854775807) (hcap : zs.length ≤ cap) :
    Calls Try.prog 80 #[.slice (some ⟨blk, off, none⟩) zs.length cap] w fun e w' => e = .returned (.slice (some ⟨blk, off, none⟩) (Lib.compact zs).length cap) ∧ ∃ q, w' = putRow (Value.int .i64) (Sort.ahead w q) blk off (Lib.compact zs ++ List.replicate (zs.length - (Lib.compact zs).length) 0).toArray := Any.slices_Compact_int laysNm220 blk off cap zs w hH hsz hcap
open Go.RowKit Go.Lib Go.Sort in
theorem slices_Compact_int_empty (a : Option Addr) (cap : Nat) (w : World) :
    Calls Try.prog 80 #[.slice a 0 cap] w fun e w' => e = .returned (.slice a 0 cap) ∧ w' = w := Any.slices_Compact_int_empty laysNm220 a cap w
open Go.RowKit Go.Sort in
theorem slices_Sort_int_none (p : Option Addr) (cap : Nat) (w : World) :
    Calls Try.prog 79 #[.slice p 0 cap] w fun e w' => e = .returned (.tuple #[]) ∧ w' = w := Any.slices_Sort_int_none lays189 p cap w

end Go.Proofs.Ytonmndojlnohcaa

namespace Go.Proofs.Ytonmndojlnohcaa
open Go.RowKit

theorem compact_none (zs : List Int) : (Lib.compact zs).length = 0 ↔ zs = [] := by
  constructor
  · intro h
    cases zs with
    | nil => rfl
    | cons x r =>
      exfalso
      have hm : (0 : Nat) ∈ (List.range (x :: r).length).filter (Lib.keeps (x :: r).toArray) := by
        rw [List.mem_filter]
        exact ⟨by simp, Lib.keeps_lt_one _ 0 (by decide)⟩
      unfold Lib.compact Lib.compactUpTo at h
      rw [List.length_map] at h
      have := List.length_pos_of_mem hm
      omega
  · intro h; subst h; rfl
theorem putRow_grown {w : World} {g q : Nat} (d : Array Int) : w.grownBy (Sort.putRow (Value.int .i64) (Sort.ahead w q) g 0 d) (some g) := by
  have h := grownBy_sortedI (w := w) (g := g) (n := q) (os := #[]) d
  have e : Sort.grow (Sort.putRow (Value.int .i64) (Sort.ahead w q) g 0 d) #[] = Sort.putRow (Value.int .i64) (Sort.ahead w q) g 0 d := by unfold Sort.grow; rw [Array.append_empty]
  rwa [e] at h
theorem grownBy_trans {a b c : World} {g : Option Nat} (h : a.grownBy b g) (k : b.grownBy c g) : a.grownBy c g := by
  obtain ⟨h1, h2, h3, h4, h5⟩ := h
  obtain ⟨k1, k2, k3, k4, k5⟩ := k
  exact ⟨k1.trans h1, k2.trans h2, k3.trans h3, Nat.le_trans h4 k4, fun i hi hn => (k5 i (Nat.lt_of_lt_of_le hi h4) hn).trans (h5 i hi hn)⟩

set_option maxHeartbeats 1000000 in
theorem iasc_any (v : Value) (xs : List Int) (B : Nat) (w : World) (h : w.ownsRow B 3 1 v xs.length (xs.map (.int .i64))) (hl : xs.length ≤ 1048576) :
    Calls Try.prog 54 #[v] w fun e w' => ∃ A n c, e = .returned (.slice A n c) ∧ (n = 0 ↔ xs = []) ∧ w.grownBy w' v.ownBlock := by
  have H := Lib.hid h
  by_cases h0 : xs = []
  · subst h0
    obtain ⟨A, c, rfl⟩ : ∃ A c, v = .slice A 0 c := by
      rcases h.2 with ⟨rfl, _⟩ | ⟨g, cap, cur, rfl, _⟩
      · exact ⟨_, _, rfl⟩
      · exact ⟨_, _, rfl⟩
    clear h
    go_enter Try.func54, Try.ntmps54
    go_wp2_with fail
    refine (slices_Sort_int_none A c _).mono ?_
    rintro e w1 ⟨rfl, rfl⟩
    go_wp2_with fail
    refine (slices_Compact_int_empty A c _).mono ?_
    rintro e w1 ⟨rfl, rfl⟩
    go_wp2
    go_ret
    exact ⟨A, 0, c, rfl, by simp, ⟨rfl, rfl, rfl, Nat.le_refl _, fun _ _ _ => rfl⟩⟩
  · obtain ⟨g, cap, cur, rfl, hg1, hg2, hg3, hg4, hg5, hg6⟩ : ∃ g cap cur, v = .slice (some ⟨g, 0, none⟩) xs.length cap ∧ B ≤ g ∧ w.heap[g]? = some (.cells cur 3 (0, 0)) ∧ xs.length ≤ cap ∧ cap ≤ maxLen ∧ cur.size = cap * 1 ∧ cur.toList.take (xs.length * 1) = xs.map (.int .i64) := by
      rcases h.2 with ⟨_, hz⟩ | q
      · exact absurd (List.eq_nil_of_length_eq_zero hz) h0
      · exact q
    rw [Nat.mul_one] at hg6
    have HG2 := Lib.hid hg2
    have HG5 := Lib.hid hg5
    have HHO := Lib.hid (holds_of_blockI hg2 hg6)
    have hglt : g < w.heap.size := (Array.getElem?_eq_some_iff.1 hg2).1
    have HN := Lib.hid h0
    clear h hg2 hg5 hg6 h0
    go_enter Try.func54, Try.ntmps54
    go_wp2_with fail
    refine (slices_Sort_int g 0 cap xs _ HHO.out hglt (by omega)).mono ?_
    rintro e w1 ⟨rfl, n, os, hw1⟩
    have hml : (xs.mergeSort fun x y => decide (x ≤ y)).length = xs.length := List.length_mergeSort _
    have HML := Lib.hid hml
    obtain ⟨ts, Hts⟩ : ∃ ts, Hid ((xs.mergeSort fun x y => decide (x ≤ y)) = ts) := ⟨_, Lib.hid rfl⟩
    rw [Hts.out] at hw1 HML
    have HGR : Hid (w.grownBy w1 (some g)) := Lib.hid (by rw [hw1]; exact grownBy_sortedI _)
    have hown : w1.ownsRow B 3 1 (.slice (some ⟨g, 0, none⟩) xs.length cap) xs.length (ts.map (.int .i64)) := by rw [hw1]; exact ownsRow_sortedI HML.out hg1 HG2.out hg3 hg4 HG5.out
    have HOW := Lib.hid hown
    have HH2 : Hid (Sort.Holds (Value.int .i64) w1 g 0 ts.toArray) := Lib.hid (by
      rcases hown.2 with ⟨hv, _⟩ | ⟨g', cap', cur', hv, _, k2, _, _, _, k6⟩
      · cases hv
      · injection hv with hv _ _
        injection hv with hv
        injection hv with e1 _
        subst e1
        exact holds_of_blockI k2 (by rw [HML.out]; rw [Nat.mul_one] at k6; exact k6))
    have hxt : xs.length = ts.length := HML.out.symm
    clear hml hown hw1
    go_wp2_with fail
    refine (slices_Compact_int g 0 cap ts _ HH2.out (by omega) (by omega)).mono ?_
    rintro e w2 ⟨rfl, q, hw2⟩
    have HG3 : Hid (w1.grownBy w2 (some g)) := Lib.hid (by rw [hw2]; exact putRow_grown _)
    have hcn := compact_none ts
    have HCN := Lib.hid hcn
    clear hw2 hcn
    go_wp2
    go_ret
    refine ⟨_, _, _, rfl, ?_, grownBy_trans HGR.out HG3.out⟩
    rw [HCN.out]
    constructor
    · intro e
      exact absurd (List.eq_nil_of_length_eq_zero (by rw [hxt, e]; rfl)) HN.out
    · intro e; exact absurd e HN.out

def RcelP (H : List Ac) (w : World) (e : Ending) (w' : World) : Prop := ∃ A n c, e = .returned (.slice A n c) ∧ (n = 0 ↔ ¬ Race H) ∧ Pure w w'

set_option maxHeartbeats 4000000 in
set_option maxRecDepth 100000 in
theorem ircells_any (v : Value) (H : List Ac) (w : World) (h : Flat w v H.length 4 (accsL H)) (hl : H.length ≤ 1048576) : Calls Try.prog 28 #[v] w (RcelP H w) := by
  have HF := Lib.hid h
  obtain ⟨A, c, rfl, hnc, hcm⟩ := h.form
  clear h
  go_enter Try.func28, Try.ntmps28
  go_wp2
  go_loopg [10, 3] H.length (fun gk i q wr => ∃ (k : Nat) (xs : List Int), gk + k = H.length ∧ i = .int .i64 k ∧ Pure w wr ∧ xs.length ≤ k ∧ wr.ownsRow w.heap.size 3 1 q xs.length (xs.map (.int .i64)) ∧ (xs = [] ↔ ∀ q, q < k → ∀ p, p < q → clashB (H.getD p default) (H.getD q default) = false))
  case atStart => exact ⟨0, [], rfl, rfl, Pure.refl _, Nat.le_refl _, World.ownsRow_nil _ _ _ _, by simp⟩
  case round =>
    obtain ⟨k, xs, hgk, rfl, hp, hxl, hown, hno⟩ := hrel
    have Hgk := Lib.hid hgk
    have HP := Lib.hid hp
    have HN := Lib.hid hno
    have HOW := Lib.hid hown
    have hkn : k ≤ H.length := by omega
    obtain ⟨Aq, cq, rfl⟩ : ∃ A c, u3 = .slice A xs.length c := by
      rcases hown.2 with ⟨rfl, hz⟩ | ⟨g, cap, cur, rfl, _⟩
      · exact ⟨none, 0, by rw [hz]⟩
      · exact ⟨_, _, rfl⟩
    clear hgk hp hno hown
    by_cases hlt : k < H.length
    · obtain ⟨b, o, rfl, hb, hc⟩ := accs_at HF.out hlt
      have HC := Lib.hid hc
      obtain ⟨q0, q1, q2, q3⟩ := (hc k hlt).keep HP.out
      obtain ⟨y, Hy⟩ : ∃ y, Hid (H.getD k default = y) := ⟨_, Lib.hid rfl⟩
      rw [Hy.out] at q0 q1 q2 q3
      have HX := Lib.hid (AcAt.box wr y 39)
      have HPX := Lib.hid (show Pure wr (wr.alloc (.cells #[.int .i64 (y.who : Nat), .int .i64 (y.cell : Nat), .bool y.wr, .int .i64 (y.ph : Nat)] 39)) from (by repeat (first | assumption | exact Pure.refl _ | refine Pure.drewN ?_ _ | refine Pure.drew ?_ | refine Pure.alloc ?_ _ | refine Pure.setCell ?_ (by simp <;> omega) _)))
      clear hc
      go_wp2_with fail
      go_loopg [19, 3] k (fun g2 i qv wr2 => ∃ j : Nat, g2 + j = k ∧ i = .int .i64 j ∧ qv = .slice Aq xs.length cq ∧ Pure (wr.alloc (.cells #[.int .i64 (y.who : Nat), .int .i64 (y.cell : Nat), .bool y.wr, .int .i64 (y.ph : Nat)] 39)) wr2 ∧ ∀ p, p < j → clashB (H.getD p default) y = false)
      case atStart => exact ⟨0, rfl, rfl, rfl, Pure.refl _, fun q hq => absurd hq (by omega)⟩
      case round =>
        obtain ⟨j, hg2, rfl, rfl, hp2, hno2⟩ := hrel
        have Hg2 := Lib.hid hg2
        have HP2 := Lib.hid hp2
        have HN2 := Lib.hid hno2
        have hjk : j ≤ k := by omega
        clear hg2 hp2 hno2 q0 q1 q2 q3
        by_cases hj : j < k
        · obtain ⟨p0, p1, p2, p3⟩ := (HC.out j (by omega)).keep ((HP.out.trans HPX.out).trans HP2.out)
          obtain ⟨q0, q1, q2, q3⟩ := HX.out.keep HP2.out
          obtain ⟨x, Hx⟩ : ∃ x, Hid (H.getD j default = x) := ⟨_, Lib.hid rfl⟩
          rw [Hx.out] at p0 p1 p2 p3
          obtain ⟨B, HB⟩ : ∃ B, Hid (clashB x y = B) := ⟨_, Lib.hid rfl⟩
          have hblt := World.block_lt_of_cell? _ _ q0
          go_wp2_with fail
          refine (iclash_any x y _).mono ?_
          rintro e w7 ⟨rfl, hp7⟩
          rw [HB.out]
          cases B
          · go_wp2_with fail
            go_roundg (k - (j + 1))
            case measure => have := Hg2.out; omega
            case rel => exact ⟨j + 1, by have := Hg2.out; omega, by go_num, rfl, (HP2.out.trans (by exact (by repeat (first | assumption | exact Pure.refl _ | refine Pure.drewN ?_ _ | refine Pure.drew ?_ | refine Pure.alloc ?_ _ | refine Pure.setCell ?_ (by simp <;> omega) _)))).trans hp7, fun p hp => by
              by_cases e : p = j
              · subst e; rw [Hx.out, HB.out]
              · exact HN2.out p (by omega)⟩
          · obtain ⟨x0, x1, x2, x3⟩ := (AcAt.box wr x 39).keep hp7
            have HP7 := Lib.hid ((HP2.out.trans (show Pure wr (wr.alloc _) from (by repeat (first | assumption | exact Pure.refl _ | refine Pure.drewN ?_ _ | refine Pure.drew ?_ | refine Pure.alloc ?_ _ | refine Pure.setCell ?_ (by simp <;> omega) _)))).trans hp7)
            clear hp7
            obtain ⟨wq, Hwq⟩ : ∃ wq, Hid (w7.alloc (.cells #[.int .i64 (x.cell : Nat)] 3) = wq) := ⟨_, Lib.hid rfl⟩
            have hpq : Pure w7 wq := by rw [← Hwq.out]; exact (by repeat (first | assumption | exact Pure.refl _ | refine Pure.drewN ?_ _ | refine Pure.drew ?_ | refine Pure.alloc ?_ _ | refine Pure.setCell ?_ (by simp <;> omega) _))
            have HPQ := Lib.hid (HP7.out.trans hpq)
            have hq0 : wq.heap[w7.heap.size]? = some (.cells #[.int .i64 (x.cell : Nat)] 3 (0, 0)) := by rw [← Hwq.out]; exact heap_alloc_new w7 _
            have HLIT := Lib.hid (fun i u (hu : [Value.int .i64 (x.cell : Nat)][i]? = some u) => (show wq.cell? ⟨w7.heap.size, i, none⟩ = some u from (cell_of_row _ _ i _ _ _ hq0).trans (by rw [List.getElem?_toArray]; exact hu)))
            have HQO := Lib.hid (own_pure HOW.out (HPX.out.trans HPQ.out))
            have HQS : Hid (w.heap.size ≤ wq.heap.size) := Lib.hid (by have := HPQ.out.size; have := HPX.out.size; have := HP.out.size; omega)
            have hwq0 := Hwq.out
            rw [← hwq0] at HLIT HQO HQS
            have Hwq0 := Lib.hid hwq0
            clear hwq0 hq0 hpq
            go_wp2_with (at_builtin; go_must (refine wl_append elInt rfl _ _ rfl w.heap.size _ xs.length _ rfl HQO.out w7.heap.size 1 1 [.int .i64 (x.cell : Nat)] rfl rfl HLIT.out (by intro u hu; simp at hu; subst hu; rfl) (by omega) (by omega) HQS.out ?_); intro v5 w5 hown5 hg5; go_must (rw [Hwq0.out] at hg5; have HO5 := Lib.hid hown5; have HP5 := Lib.hid (Pure.grown ((HP.out.trans HPX.out).trans HPQ.out) hg5 (fun g hg => (own_lt HOW.out g hg).1)); clear hown5 hg5))
            go_roundg (H.length - (k + 1))
            case measure => have := Hgk.out; omega
            case rel => exact ⟨k + 1, xs ++ [((x.cell : Nat) : Int)], by have := Hgk.out; omega, by go_num, HP5.out, by rw [List.length_append]; simp; omega, by rw [List.length_append, List.map_append]; exact HO5.out, by
              constructor
              · intro h; exact absurd h (by simp)
              · intro h
                have := h k (by omega) j (by omega)
                rw [Hx.out, Hy.out, HB.out] at this; cases this⟩
        · have hjk2 : j = k := by omega
          subst hjk2
          go_wp2_with fail
          go_roundg (H.length - (j + 1))
          case measure => have := Hgk.out; omega
          case rel => exact ⟨j + 1, xs, by have := Hgk.out; omega, by go_num, (HP.out.trans HPX.out).trans HP2.out, by omega, own_pure HOW.out (HPX.out.trans HP2.out), by
            rw [HN.out]
            exact ⟨fun h q hq p hp => by
              by_cases e : q = j
              · subst e; rw [Hy.out]; exact HN2.out p hp
              · exact h q (by omega) p hp, fun h q hq p hp => h q (by omega) p hp⟩⟩
    · have hkl : k = H.length := by omega
      subst hkl
      go_wp2_with fail
      refine (iasc_any _ xs w.heap.size _ HOW.out (by omega)).mono ?_
      rintro e w3 ⟨A3, n3, c3, rfl, hn3, hg3⟩
      have HN3 := Lib.hid hn3
      have HPF : Hid (Pure w w3) := Lib.hid (HP.out.grown hg3 (fun g hg => (own_lt HOW.out g hg).1))
      clear hn3 hg3
      go_wp2
      go_ret
      exact ⟨A3, n3, c3, rfl, by
        rw [HN3.out, HN.out]
        exact ⟨fun h => Race.no h, fun h q hq p hp => by
          cases hc : clashB (H.getD p default) (H.getD q default)
          · rfl
          · exact absurd ⟨q, p, hp, hq, hc⟩ h⟩, HPF.out⟩

end Go.Proofs.Ytonmndojlnohcaa

namespace Go.Proofs.Ytonmndojlnohcaa

theorem ones_offL {R : Nat → Nat → Int} {mask a n l : Nat} (h : mask.testBit l = false) : (onesTo R mask a n).testBit l = false := by
  cases hb : (onesTo R mask a n).testBit l
  · rfl
  · rw [onesTo_sub R mask a n l hb] at h; cases h
theorem del_offL {a b l : Nat} (h : a.testBit l = false) : (del a b).testBit l = false := by rw [del_bit', h]; rfl
theorem turns_frameL {F : Nat → LS → LS} {n a l : Nat} (hF : ∀ y s, y.testBit l = false → (F y s).R l = s.R l) : ∀ (b y : Nat) (s : LS), y.testBit l = false → (turns F n a b y s).R l = s.R l
  | 0, _, _, _ => rfl
  | b + 1, y, s, h => (turns_frameL hF b (onesTo s.R y a n) (F (onesTo s.R y a n) s) (ones_offL h)).trans (hF _ _ (ones_offL h))
theorem run_frameL (n m : Nat) : ∀ (t : Tr) (i mask : Nat) (s : LS) (l : Nat), mask.testBit l = false → (run n m t i mask s).R l = s.R l
  | .nil, _, _, _, _, _ => rfl
  | .op c k, i, mask, s, l, h => by
    show LS.R (if _ then _ else _) l = _
    split
    · rfl
    · rw [run_frameL n m k _ _ _ l h, exec_Rx, if_neg (fun q => by rw [h] at q; cases q.2)]
  | .ite a t k, i, mask, s, l, h => by
    show LS.R (if _ then _ else _) l = _
    split
    · rfl
    · rw [run_frameL n m k _ _ _ l h, run_frameL n m t _ _ _ l (ones_offL h)]; rfl
  | .itee a t e k, i, mask, s, l, h => by
    show LS.R (if _ then _ else _) l = _
    split
    · rfl
    · rw [run_frameL n m k _ _ _ l h, run_frameL n m e _ _ _ l (del_offL h), run_frameL n m t _ _ _ l (ones_offL h)]; rfl
  | .loop a b t k, i, mask, s, l, h => by
    show LS.R (if _ then _ else _) l = _
    split
    · rfl
    · rw [run_frameL n m k _ _ _ l h, turns_frameL (fun y s hy => run_frameL n m t _ _ _ l hy) _ _ _ h]; rfl
theorem exec_grow (c : Cd) (n m i mask : Nat) (s : LS) : ∀ x, x ∈ s.A → x ∈ (exec c n m i mask s).A := by
  intro x h
  rw [exec_A]
  split
  · exact List.mem_append_left _ h
  · exact h
theorem turns_grow {F : Nat → LS → LS} {n a : Nat} (hF : ∀ y s x, x ∈ s.A → x ∈ (F y s).A) : ∀ (b y : Nat) (s : LS) x, x ∈ s.A → x ∈ (turns F n a b y s).A
  | 0, _, _, _, h => h
  | b + 1, y, s, x, h => turns_grow hF b (onesTo s.R y a n) (F (onesTo s.R y a n) s) x (hF _ _ x h)
theorem run_growA (n m : Nat) : ∀ (t : Tr) (i mask : Nat) (s : LS) (x : Ac), x ∈ s.A → x ∈ (run n m t i mask s).A
  | .nil, _, _, _, _, h => h
  | .op c k, i, mask, s, x, h => by
    show x ∈ LS.A (if _ then _ else _)
    split
    · exact h
    · exact run_growA n m k _ _ _ x (exec_grow _ _ _ _ _ _ x h)
  | .ite a t k, i, mask, s, x, h => by
    show x ∈ LS.A (if _ then _ else _)
    split
    · exact h
    · exact run_growA n m k _ _ _ x (run_growA n m t _ _ _ x h)
  | .itee a t e k, i, mask, s, x, h => by
    show x ∈ LS.A (if _ then _ else _)
    split
    · exact h
    · exact run_growA n m k _ _ _ x (run_growA n m e _ _ _ x (run_growA n m t _ _ _ x h))
  | .loop a b t k, i, mask, s, x, h => by
    show x ∈ LS.A (if _ then _ else _)
    split
    · exact h
    · exact run_growA n m k _ _ _ x (turns_grow (fun y s x hx => run_growA n m t _ _ _ x hx) _ _ _ x h)

/-- No load and no barrier at the places of a segment. -/
def NoLB (cs : List Cd) (j d : Nat) : Prop := ∀ p, j ≤ p → p < j + d → (cs.getD p default).op ≠ 8 ∧ (cs.getD p default).op ≠ 10
theorem NoLB.sub {cs : List Cd} {j d j' d' : Nat} (h : NoLB cs j d) (h1 : j ≤ j') (h2 : j' + d' ≤ j + d) : NoLB cs j' d' := fun p q1 q2 => h p (by omega) (by omega)
theorem turns_keepP {F : Nat → LS → LS} {n a : Nat} (hF : ∀ y s, (F y s).P = s.P) : ∀ (b y : Nat) (s : LS), (turns F n a b y s).P = s.P
  | 0, _, _ => rfl
  | b + 1, y, s => (turns_keepP hF b (onesTo s.R y a n) (F (onesTo s.R y a n) s)).trans (hF _ _)
theorem run_keepP {cs : List Cd} (n m : Nat) : ∀ (t : Tr) (j mask : Nat) (s : LS), Seg cs j t → NoLB cs j t.len → (run n m t j mask s).P = s.P
  | .nil, _, _, _, _, _ => rfl
  | .op c k, j, mask, s, hs, h => by
    have hl := Tr.len_op c k
    show LS.P (if _ then _ else _) = _
    split
    · rfl
    · rw [run_keepP n m k (j + 1) mask _ hs.op.2.2 (h.sub (by omega) (by omega)), exec_P]
      have hc := h j (Nat.le_refl _) (by omega)
      rw [hs.op.1] at hc
      rw [if_neg hc.2]
  | .ite a t k, j, mask, s, hs, h => by
    have hl := Tr.len_ite a t k
    show LS.P (if _ then _ else _) = _
    split
    · rfl
    · rw [run_keepP n m k (j + 1 + t.len + 1) mask _ hs.ite.2.2.2.2 (h.sub (by omega) (by omega)), run_keepP n m t (j + 1) _ _ hs.ite.2.1 (h.sub (by omega) (by omega))]
      rfl
  | .itee a t e k, j, mask, s, hs, h => by
    have hl := Tr.len_itee a t e k
    show LS.P (if _ then _ else _) = _
    split
    · rfl
    · rw [run_keepP n m k (j + 1 + t.len + 1 + e.len + 1) mask _ hs.itee.2.2.2.2.2.2 (h.sub (by omega) (by omega)), run_keepP n m e (j + 1 + t.len + 1) _ _ hs.itee.2.2.2.1 (h.sub (by omega) (by omega)), run_keepP n m t (j + 1) _ _ hs.itee.2.1 (h.sub (by omega) (by omega))]
      rfl
  | .loop a b t k, j, mask, s, hs, h => by
    have hl := Tr.len_loop a b t k
    show LS.P (if _ then _ else _) = _
    split
    · rfl
    · rw [run_keepP n m k (j + 1 + t.len + 1) mask _ hs.loop.2.2.2.2 (h.sub (by omega) (by omega)), turns_keepP (fun y s => run_keepP n m t (j + 1) y s hs.loop.2.1 (h.sub (by omega) (by omega)))]
      rfl

/-- A run with fewer lanes (the second) goes with one with more. -/
def LRel (n : Nat) (s s' : LS) : Prop := (∀ l, l < n → s.R l = s'.R l) ∧ (∀ x, x ∈ s'.A → x ∈ s.A) ∧ s.P = s'.P
def MRel (n mask mask' : Nat) : Prop := ∀ l, mask'.testBit l = (decide (l < n) && mask.testBit l)
theorem MRel.ones {n n' mask mask' a : Nat} {s s' : LS} (hn : n' ≤ n) (h : MRel n' mask mask') (hs : LRel n' s s') : MRel n' (onesTo s.R mask a n) (onesTo s'.R mask' a n') := by
  intro l
  rw [onesTo_bit, onesTo_bit, h l]
  by_cases hl : l < n'
  · rw [hs.1 l hl, decide_eq_true hl, decide_eq_true (show l < n by omega)]; simp
  · rw [decide_eq_false hl]; simp
theorem MRel.del {n mask mask' q q' : Nat} (h : MRel n mask mask') (hq : MRel n q q') : MRel n (del mask q) (del mask' q') := by
  intro l
  rw [del_bit', del_bit', h l, hq l]
  cases decide (l < n) <;> simp
theorem MRel.beat {n i i' mask mask' : Nat} {s s' : LS} (h : LRel n s s') : LRel n (beat i mask s) (beat i' mask' s') := h
theorem MRel.off {n mask : Nat} (h : MRel n mask 0) : ∀ l, l < n → mask.testBit l = false := by
  intro l hl
  have := h l
  rw [Nat.zero_testBit, decide_eq_true hl, Bool.true_and] at this
  exact this.symm
theorem MRel.ne {n mask mask' : Nat} (h : MRel n mask mask') (h0 : mask' ≠ 0) : mask ≠ 0 := by
  intro e
  refine h0 (Nat.eq_of_testBit_eq fun l => ?_)
  rw [h l, e, Nat.zero_testBit, Bool.and_false]
theorem less_frame {cs : List Cd} {n n' m : Nat} {t : Tr} {i mask : Nat} {s s' : LS} (hs : Seg cs i t) (h : NoLB cs i t.len) (hm : MRel n' mask 0) (hr : LRel n' s s') : LRel n' (run n m t i mask s) s' :=
  ⟨fun l hl => (run_frameL n m t i mask s l (hm.off l hl)).trans (hr.1 l hl), fun x hx => run_growA n m t i mask s x (hr.2.1 x hx), (run_keepP n m t i mask s hs h).trans hr.2.2⟩
theorem less_exec {c : Cd} {n n' m i mask mask' : Nat} {s s' : LS} (hn : n' ≤ n) (h8 : c.op ≠ 8) (hm : MRel n' mask mask') (hr : LRel n' s s') : LRel n' (exec c n m i mask s) (exec c n' m i mask' s') := by
  refine ⟨fun l hl => ?_, fun x hx => ?_, ?_⟩
  · rw [exec_Rx, exec_Rx, hm l, decide_eq_true hl, Bool.true_and, hr.1 l hl]
    by_cases hb : mask.testBit l = true
    · rw [if_pos ⟨by omega, hb⟩, if_pos ⟨hl, hb⟩]; exact simR_Mx h8 _ _ _ _ _
    · rw [if_neg (fun q => hb q.2), if_neg (fun q => hb q.2)]
  · rw [exec_A] at hx ⊢
    split at hx
    · rename_i hop
      rw [if_pos hop]
      rcases List.mem_append.1 hx with hx | hx
      · exact List.mem_append_left _ (hr.2.1 x hx)
      · obtain ⟨l, hl, hb, rfl⟩ := accTo_mem.1 hx
        rw [hm l, decide_eq_true hl, Bool.true_and] at hb
        refine List.mem_append_right _ (accTo_mem.2 ⟨l, by omega, hb, ?_⟩)
        rw [hr.1 l hl, hr.2.2]
    · rename_i hop
      rw [if_neg hop]; exact hr.2.1 x hx
  · rw [exec_P, exec_P, hr.2.2]
theorem less_turns {F G : Nat → LS → LS} {n n' a : Nat} (hn : n' ≤ n) (hF : ∀ y y' s s', MRel n' y y' → LRel n' s s' → LRel n' (F y s) (G y' s')) : ∀ (b y y' : Nat) (s s' : LS), MRel n' y y' → LRel n' s s' → LRel n' (turns F n a b y s) (turns G n' a b y' s')
  | 0, _, _, _, _, _, h => h
  | b + 1, _y, _y', _s, _s', hm, h => less_turns hn hF b _ _ _ _ (hm.ones hn h) (hF _ _ _ _ (hm.ones hn h) h)
theorem less_run {cs : List Cd} {n n' m : Nat} (hn : n' ≤ n) : ∀ (t : Tr) (i mask mask' : Nat) (s s' : LS), Seg cs i t → NoLB cs i t.len → MRel n' mask mask' → LRel n' s s' → LRel n' (run n m t i mask s) (run n' m t i mask' s')
  | .nil, _, _, _, _, _, _, _, _, h => h
  | .op c k, i, mask, mask', s, s', hs, hb, hm, h => by
    have hl := Tr.len_op c k
    by_cases h0 : mask' = 0
    · subst h0; rw [run_zero n']; exact less_frame hs hb hm h
    · have e1 : run n m (.op c k) i mask s = _ := if_neg (hm.ne h0)
      have e2 : run n' m (.op c k) i mask' s' = _ := if_neg h0
      rw [e1, e2]
      have hc := hb i (Nat.le_refl _) (by omega)
      rw [hs.op.1] at hc
      exact less_run hn k _ _ _ _ _ hs.op.2.2 (hb.sub (by omega) (by omega)) hm (less_exec hn hc.1 hm h)
  | .ite a t k, i, mask, mask', s, s', hs, hb, hm, h => by
    have hl := Tr.len_ite a t k
    by_cases h0 : mask' = 0
    · subst h0; rw [run_zero n']; exact less_frame hs hb hm h
    · have e1 : run n m (.ite a t k) i mask s = _ := if_neg (hm.ne h0)
      have e2 : run n' m (.ite a t k) i mask' s' = _ := if_neg h0
      rw [e1, e2]
      exact less_run hn k _ _ _ _ _ hs.ite.2.2.2.2 (hb.sub (by omega) (by omega)) hm (less_run hn t _ _ _ _ _ hs.ite.2.1 (hb.sub (by omega) (by omega)) (hm.ones hn h) h)
  | .itee a t e k, i, mask, mask', s, s', hs, hb, hm, h => by
    have hl := Tr.len_itee a t e k
    by_cases h0 : mask' = 0
    · subst h0; rw [run_zero n']; exact less_frame hs hb hm h
    · have e1 : run n m (.itee a t e k) i mask s = _ := if_neg (hm.ne h0)
      have e2 : run n' m (.itee a t e k) i mask' s' = _ := if_neg h0
      rw [e1, e2]
      exact less_run hn k _ _ _ _ _ hs.itee.2.2.2.2.2.2 (hb.sub (by omega) (by omega)) hm (less_run hn e _ _ _ _ _ hs.itee.2.2.2.1 (hb.sub (by omega) (by omega)) (hm.del (hm.ones hn h)) (less_run hn t _ _ _ _ _ hs.itee.2.1 (hb.sub (by omega) (by omega)) (hm.ones hn h) h))
  | .loop a b t k, i, mask, mask', s, s', hs, hb, hm, h => by
    have hl := Tr.len_loop a b t k
    by_cases h0 : mask' = 0
    · subst h0; rw [run_zero n']; exact less_frame hs hb hm h
    · have e1 : run n m (.loop a b t k) i mask s = _ := if_neg (hm.ne h0)
      have e2 : run n' m (.loop a b t k) i mask' s' = _ := if_neg h0
      rw [e1, e2]
      exact less_run hn k _ _ _ _ _ hs.loop.2.2.2.2 (hb.sub (by omega) (by omega)) hm (less_turns hn (fun y y' s s' hy hs' => less_run hn t _ _ _ _ _ hs.loop.2.1 (hb.sub (by omega) (by omega)) hy hs') _ _ _ _ _ hm h)
theorem free_less {cs : List Cd} {n n' : Nat} {mem : List Int} (hok : RunOk cs n mem) (hok' : RunOk cs n' mem) (hn : n' ≤ n) (h8 : countTo cs 8 cs.length = 0) (h10 : countTo cs 10 cs.length = 0) (hf : freeA cs n mem = true) : freeA cs n' mem = true := by
  rw [freeA_iff hok] at hf
  rw [freeA_iff hok']
  intro hr
  refine hf (race_sub ?_ hr)
  rw [lockA_ok hok, lockA_ok hok']
  obtain ⟨k1, k2, k3⟩ := treeOf_spec hok.1
  have hlen : (treeOf cs).len = cs.length := (congrArg List.length k1).symm
  have h := less_run (cs := cs) (m := mem.length) hn (treeOf cs) 0 (2 ^ n - 1) (2 ^ n' - 1) (startLS mem) (startLS mem) (Seg.whole k1) (fun p _ hp => ⟨countTo_none cs.length (Nat.le_refl _) h8 p (by omega), countTo_none cs.length (Nat.le_refl _) h10 p (by omega)⟩) (fun l => by
    rw [Nat.testBit_two_pow_sub_one, Nat.testBit_two_pow_sub_one, Bool.eq_iff_iff, Bool.and_eq_true, decide_eq_true_iff, decide_eq_true_iff]; omega) ⟨fun _ _ => rfl, fun _ h => h, rfl⟩
  exact h.2.1

/-- One lane has no races. -/
theorem accTo_who {c : Cd} {m mask P : Nat} {R : Nat → Nat → Int} {x : Ac} {j : Nat} (h : x ∈ accTo c m mask P R j) : x.who < j := by
  obtain ⟨l, hl, _, rfl⟩ := accTo_mem.1 h
  exact hl
def Who (n : Nat) (s : LS) : Prop := ∀ x, x ∈ s.A → x.who < n
theorem turns_who {F : Nat → LS → LS} {n N a : Nat} (hF : ∀ y s, Who N s → Who N (F y s)) : ∀ (b y : Nat) (s : LS), Who N s → Who N (turns F n a b y s)
  | 0, _, _, h => h
  | b + 1, y, s, h => turns_who hF b (onesTo s.R y a n) (F (onesTo s.R y a n) s) (hF _ _ h)
theorem run_who (n m : Nat) : ∀ (t : Tr) (i mask : Nat) (s : LS), Who n s → Who n (run n m t i mask s)
  | .nil, _, _, _, h => h
  | .op c k, i, mask, s, h => by
    show Who n (if _ then _ else _)
    split
    · exact h
    · refine run_who n m k _ _ _ (fun x hx => ?_)
      rw [exec_A] at hx
      split at hx
      · rcases List.mem_append.1 hx with hx | hx
        · exact h x hx
        · exact accTo_who hx
      · exact h x hx
  | .ite a t k, i, mask, s, h => by
    show Who n (if _ then _ else _)
    split
    · exact h
    · exact run_who n m k _ _ _ (run_who n m t _ _ _ h)
  | .itee a t e k, i, mask, s, h => by
    show Who n (if _ then _ else _)
    split
    · exact h
    · exact run_who n m k _ _ _ (run_who n m e _ _ _ (run_who n m t _ _ _ h))
  | .loop a b t k, i, mask, s, h => by
    show Who n (if _ then _ else _)
    split
    · exact h
    · exact run_who n m k _ _ _ (turns_who (fun y s hs => run_who n m t _ _ _ hs) _ _ _ h)
theorem free_one {cs : List Cd} {mem : List Int} (hok : RunOk cs (1 : Nat) mem) : freeA cs (1 : Nat) mem = true := by
  rw [freeA_iff hok]
  rintro ⟨q, p, h1, h2, hc⟩
  obtain ⟨_, c2, _, _⟩ := clash_iff.1 hc
  have hw : Who 1 (lockA cs (1 : Nat) mem) := by
    rw [lockA_ok hok]
    exact run_who 1 mem.length (treeOf cs) 0 _ _ (fun x hx => by cases hx)
  have e1 := hw _ (acMem (show p < (lockA cs (1 : Nat) mem).A.length by omega))
  have e2 := hw _ (acMem h2)
  omega
theorem ok_fewer {cs : List Cd} {n n' : Nat} {mem : List Int} (h : RunOk cs n mem) (h1 : 1 ≤ n') (hn : n' ≤ n) : RunOk cs n' mem := by
  obtain ⟨a, b, c⟩ := h
  refine ⟨a, ?_, c⟩
  unfold LanesOk at b ⊢
  omega

end Go.Proofs.Ytonmndojlnohcaa
