/- Reachability, as the reference and the program reckon it. The reference's GraphReach. Post-dominators, as the reference and the program find them. Nearest post-dominators, as the reference and the program find them. Nearest post-dominators, as the program finds them. No condition. -/
import Derived.Deep.LoopGhost
import Derived.Test.YtmhaaihgepldhaaKaa

namespace Go.Proofs.Ytmhaaihgepldhaa
open Go.RowKit

def Bools (w : World) (v : Value) (bs : List Bool) : Prop := Cells w v bs.length 1 (fun j => .bool (bs.getD j false))
theorem Bools.keep {w w' : World} {v : Value} {xs : List Bool} (h : Bools w v xs) (hp : Pure w w') : Bools w' v xs := Cells.keep h hp

def ReachPost (xss : List (List Int)) (wo fr : Int) (w : World) (e : Ending) (w' : World) : Prop :=
  ∃ v bs, e = .returned v ∧ Bools w' v bs ∧ bs.length = xss.length ∧ (∀ i : Nat, i < xss.length → (bs.getD i false = true ↔ RC xss wo fr i)) ∧ Pure w w'

/-- The marks: which nodes have been seen. -/
def Seen (w : World) (B g n : Nat) (L : List Int) : Prop :=
  ∃ ys, OwnO w B 4 1 (.slice (some ⟨g, 0, none⟩) n n) n ys ∧ ∀ i : Nat, i < n → ys[i]? = some (.bool (decide ((i : Int) ∈ L)))

theorem Seen.cell {w : World} {B g n : Nat} {L : List Int} (h : Seen w B g n L) {i : Nat} (hi : i < n) : w.cell? ⟨g, i, none⟩ = some (.bool (decide ((i : Int) ∈ L))) := by
  obtain ⟨ys, h1, h2⟩ := h
  have := h1.cell i (by omega)
  rw [Nat.zero_add] at this
  rw [this]; exact h2 i hi
theorem Seen.frozen {w : World} {B g n : Nat} {L : List Int} (h : Seen w B g n L) (i : Nat) : w.frozen? ⟨g, i, none⟩ = false := by
  obtain ⟨ys, h1, h2⟩ := h
  exact h1.frozen i
theorem Seen.kept {w w' : World} {B g n : Nat} {L : List Int} {row : Option Nat} (h : Seen w B g n L) (hg : w.grownBy w' row) (hne : some g ≠ row) : Seen w' B g n L := by
  obtain ⟨ys, h1, h2⟩ := h
  exact ⟨ys, h1.kept hg (fun k hk => by simp [Value.ownBlock] at hk; subst hk; exact hne), h2⟩
theorem Seen.pure {w w' : World} {B g n : Nat} {L : List Int} (h : Seen w B g n L) (hp : Pure w w') : Seen w' B g n L := h.kept (hp.grownBy none) (by simp)
theorem Seen.mark {w : World} {B g n : Nat} {L : List Int} (h : Seen w B g n L) {i : Nat} (hi : i < n) : Seen (w.setCell ⟨g, i, none⟩ (.bool true)) B g n (L ++ [(i : Int)]) := by
  obtain ⟨ys, h1, h2⟩ := h
  have h3 := h1.stored i (.bool true)
  rw [Nat.zero_add] at h3
  refine ⟨_, h3, fun j hj => ?_⟩
  rw [List.getElem?_set]
  have hl : ys.length = n := by have := h1.1; omega
  by_cases e : i = j
  · subst e; rw [if_pos rfl, if_pos (by omega)]; simp
  · rw [if_neg e, h2 j hj]
    have : (j : Int) ≠ i := by omega
    simp [this]
theorem Seen.ne {w : World} {B g n B' e s n' : Nat} {L : List Int} {v : Value} {xs : List Value} (h : Seen w B g n L) (h' : OwnO w B' e s v n' xs) (hne : 4 ≠ e) : some g ≠ v.ownBlock := by
  obtain ⟨ys, h1, h2⟩ := h
  exact h1.ne h' hne g rfl
theorem Seen.start {w : World} {B g n : Nat} (h : w.ownsRow B 4 1 (.slice (some ⟨g, 0, none⟩) n n) n (zeros [.bool false] n)) : Seen w B g n [] := by
  refine ⟨_, OwnO.of_own h, fun i hi => ?_⟩
  rw [zeros_get _ _ _ (by simpa using hi)]
  simp [Nat.mod_one]
theorem Seen.bools {w : World} {B g n : Nat} {L : List Int} (h : Seen w B g n L) : Bools w (.slice (some ⟨g, 0, none⟩) n n) ((List.range n).map fun (i : Nat) => decide ((i : Int) ∈ L)) := by
  obtain ⟨ys, h1, h2⟩ := h
  unfold Bools
  rw [List.length_map, List.length_range]
  refine Cells.of_ownO h1 fun j hj => ?_
  rw [h2 j (by omega)]
  simp [List.getD_eq_getElem?_getD, show j < n by omega]
theorem seen_post {xss : List (List Int)} {wo fr : Int} {w wr : World} {B g : Nat} {L : List Int} (h : Seen wr B g xss.length L) (hL : ∀ x, x ∈ L ↔ RC xss wo fr x) (hp : Pure w wr) : ReachPost xss wo fr w (.returned (.slice (some ⟨g, 0, none⟩) xss.length xss.length)) wr :=
  ⟨_, _, rfl, h.bools, by simp, fun i hi => by simp [List.getD_eq_getElem?_getD, hi]; exact hL i, hp⟩

set_option maxHeartbeats 1000000 in
set_option maxRecDepth 100000 in
theorem reach_any (v : Value) (xss : List (List Int)) (fr wo : Int) (w : World) (h : IntRows w v xss) (hG : GValid xss) (hf : 0 ≤ fr ∧ fr ≤ (xss.length : Int) - 1) :
    Calls Try.prog 66 #[v, .int .i64 fr, .int .i64 wo] w (ReachPost xss wo fr w) := by
  obtain ⟨A, c, rfl, hnc, hcm, hread⟩ := h
  obtain ⟨f, rfl⟩ : ∃ f : Nat, fr = f := ⟨fr.toNat, by omega⟩
  have hn64 := hG.2
  obtain ⟨hf1, hf2⟩ := hf
  have hfn : f < xss.length := by omega
  by_cases hne : (f : Int) = wo
  · have hd : ((f : Int) == wo) = true := by simp [hne]
    have Hne := Lib.hid hne; clear hne hread
    have HG := Lib.hid hG; clear hG
    go_enter Try.func66, Try.ntmps66
    go_wp2_with (at_make; refine wl_make elBool rfl _ _ rfl w.heap.size _ _ _ _ xss.length rfl rfl rfl rfl (by omega) (by omega) (Nat.le_refl _) ?_; intro w1 hown hp hsz)
    go_ret
    exact seen_post (Seen.start hown) (fun x => by
      constructor
      · intro h; simp at h
      · intro h; exact absurd Hne.out h.ne_left) hp
  · have hd : ((f : Int) == wo) = false := by simp [hne]
    have Hne := Lib.hid hne; clear hne
    have HG := Lib.hid hG; clear hG
    go_enter Try.func66, Try.ntmps66
    go_wp2_with (at_make; refine wl_make elBool rfl _ _ rfl w.heap.size _ _ _ _ xss.length rfl rfl rfl rfl (by omega) (by omega) (Nat.le_refl _) ?_; intro w1 hown hp hsz; have hs0 := Seen.start hown; have hc0 := hs0.cell hfn; have hf0 := hs0.frozen f; have Hs0 := Lib.hid hs0; clear hs0 hown)
    have hM := Hs0.out.mark hfn
    have hp1 : Pure w (w1.setCell ⟨w.heap.size, f, none⟩ (.bool true)) := hp.setCell (Nat.le_refl _) _
    have hM2 := hM.pure (Pure.alloc (Pure.refl _) (.cells #[Value.int .i64 (f : Int)] 3))
    have hq : OwnO ((w1.setCell ⟨w.heap.size, f, none⟩ (.bool true)).alloc (.cells #[Value.int .i64 (f : Int)] 3)) w.heap.size 3 1 (.slice (some ⟨w1.heap.size, 0, none⟩) 1 1) 1 [Value.int .i64 (f : Int)] := by
      have := OwnO.lit (B := w.heap.size) (e := 3) (s := 1) (w1.setCell ⟨w.heap.size, f, none⟩ (.bool true)) #[Value.int .i64 (f : Int)] 1 hp1.size (by omega) (by simp)
      simpa [World.setCell] using this
    have hp2 := hp1.alloc (.cells #[Value.int .i64 (f : Int)] 3)
    have hB0 := Bfs.start (xss := xss) (wo := wo) (fr := (f : Int)) (by omega) (by omega) Hne.out
    go_loopg [8] xss.length (fun gk q wr => ∃ (L : List Int) (k n : Nat), gk + k = xss.length ∧ Bfs xss wo f L k ∧ n + k = L.length ∧ Seen wr w.heap.size w.heap.size xss.length L ∧ OwnO wr w.heap.size 3 1 q n ((L.drop k).map (.int .i64)) ∧ Pure w wr)
    case atStart => exact ⟨[(f : Int)], 0, 1, rfl, hB0, rfl, hM2, hq, hp2⟩
    case round =>
      clear hM hp1 hM2 hq hp2 hB0 hp hsz Hs0 hc0 hf0
      obtain ⟨L, k, n, hgk, hbfs, hnk, hseen, hown, hp⟩ := hrel
      by_cases hlt : 0 < n
      · obtain ⟨g, off, cq, rfl, hnq, hcq, hgB, hgz⟩ := hown.formSome hlt
        have hkL : k < L.length := by omega
        have hcell := hown.cell 0 (by omega)
        have hx0 : ((L.drop k).map (Value.int .i64))[0]? = some (.int .i64 (L.getD k 0)) := by simp [List.getD_eq_getElem?_getD, hkL]
        rw [hx0] at hcell
        have hm := hbfs.rng (L.getD k 0) (by simp [List.getD_eq_getElem?_getD, hkL])
        obtain ⟨m, hm'⟩ : ∃ m : Nat, L.getD k 0 = m := ⟨(L.getD k 0).toNat, by omega⟩
        rw [hm'] at hcell hm
        have Hm' := Lib.hid hm'; clear hm' hx0
        obtain ⟨hm0, hm1⟩ := hm
        have hmx : m < xss.length := by omega
        obtain ⟨b, o, rfl, hb, hc⟩ := hread (by omega)
        obtain ⟨r, hr, hrow⟩ := hc m hmx
        have hr' := (hp.cell b (o + m) hb).trans hr
        clear hread hc hr
        obtain ⟨xs, Hxs⟩ : ∃ xs, Hid (xss.getD m [] = xs) := ⟨_, rfl⟩
        rw [Hxs.out] at hrow
        obtain ⟨A', c', rfl, hnc', hcm', hread'⟩ := hrow
        have Hbfs := Lib.hid hbfs; clear hbfs
        have Hseen := Lib.hid hseen; clear hseen
        have Hown := Lib.hid hown; clear hown
        simp only [Nat.add_zero] at hcell
        go_wp2
        go_loopg [35, 8] xs.length (fun gj i q wr => ∃ (j n' : Nat) (L' : List Int), gj + j = xs.length ∧ i = .int .i64 j ∧ Bfs xss wo f L' k ∧ L'.getD k 0 = m ∧ n' + k = L'.length ∧ 0 < n' ∧ Seen wr w.heap.size w.heap.size xss.length L' ∧ OwnO wr w.heap.size 3 1 q n' ((L'.drop k).map (.int .i64)) ∧ Pure w wr ∧ ∀ i, i < j → xs.getD i 0 ≠ wo → xs.getD i 0 ∈ L')
        case atStart => exact ⟨0, n, L, rfl, rfl, Hbfs.out, Hm'.out, hnk, hlt, Hseen.out, Hown.out, hp, fun i hi => absurd hi (by omega)⟩
        case round =>
          have Hgk := Lib.hid hgk
          clear hcell hr' hp hgk hnk hgB hgz hnq Hbfs Hseen Hown Hm' hkL hlt
          obtain ⟨j, n', L', hgj, rfl, hbfs, hm', hnk, hlt, hseen, hown, hp, hall⟩ := hrel
          have Hbfs := Lib.hid hbfs
          have Hm' := Lib.hid hm'
          have Hseen := Lib.hid hseen
          have Hown := Lib.hid hown
          have Hall := Lib.hid hall
          clear hbfs hm' hseen hown hall
          have hlen := Hbfs.out.len
          obtain ⟨g, off, cq, rfl, hnq, hcq, hgB, hgz⟩ := Hown.out.formSome hlt
          by_cases hlj : j < xs.length
          · obtain ⟨b', o', rfl, hb', hc'⟩ := hread' (by omega)
            have hx := (hp.cell b' (o' + j) hb').trans (hc' j (by omega))
            have hmem : xs.getD j 0 ∈ xss.getD m [] := by rw [Hxs.out]; simp [List.getD_eq_getElem?_getD, hlj]
            have hrg := HG.out.mem hmem
            obtain ⟨y, hy⟩ : ∃ y : Nat, xs.getD j 0 = y := ⟨(xs.getD j 0).toNat, by omega⟩
            rw [hy] at hx hmem hrg
            have Hy := Lib.hid hy
            have Hmem := Lib.hid hmem
            clear hread' hc' hy hmem
            obtain ⟨hr1, hr2⟩ := hrg
            have hyn : y < xss.length := by omega
            have hcell := Hseen.out.cell hyn
            have hfz := Hseen.out.frozen y
            by_cases hin : (y : Int) ∈ L'
            · rw [decide_eq_true hin] at hcell
              have Hin := Lib.hid hin; clear hin
              go_wp2
              go_roundg (xs.length - (j + 1))
              case measure => omega
              case rel =>
                refine ⟨j + 1, n', L', by omega, by go_num, Hbfs.out, Hm'.out, hnk, hlt, Hseen.out, Hown.out, hp, fun i hi hw => ?_⟩
                by_cases e : i = j
                · subst e; rw [Hy.out]; exact Hin.out
                · exact Hall.out i (by omega) hw
            · rw [decide_eq_false hin] at hcell
              have Hin := Lib.hid hin; clear hin
              by_cases hyw : (y : Int) = wo
              · have hd : ((y : Int) != wo) = false := by simp [hyw]
                have Hyw := Lib.hid hyw; clear hyw
                go_wp2
                go_roundg (xs.length - (j + 1))
                case measure => omega
                case rel =>
                  refine ⟨j + 1, n', L', by omega, by go_num, Hbfs.out, Hm'.out, hnk, hlt, Hseen.out, Hown.out, hp, fun i hi hw => ?_⟩
                  by_cases e : i = j
                  · subst e; rw [Hy.out] at hw; exact absurd Hyw.out hw
                  · exact Hall.out i (by omega) hw
              · have hd : ((y : Int) != wo) = true := by simp [hyw]
                have Hyw := Lib.hid hyw; clear hyw
                have hM := Hseen.out.mark hyn
                have hO := Hown.out.kept (grown_setCell wr ⟨w.heap.size, y, none⟩ (.bool true)) (fun k hk e => Hseen.out.ne Hown.out (by decide) (by rw [hk, e]))
                have hP := Pure.setCell (p := ⟨w.heap.size, y, none⟩) hp (Nat.le_refl _) (.bool true)
                have hMO := Hseen.out.ne Hown.out (by decide)
                have HMO := Lib.hid hMO
                have HM := Lib.hid hM
                have HO := Lib.hid hO
                have HP := Lib.hid hP
                clear hM hO hP hMO
                go_wp2_with (at_builtin; refine wl_append1 elInt rfl _ _ rfl w.heap.size _ _ _ rfl HO.out wr.heap.size 1 [.int .i64 (y : Int)] rfl (by simp [World.setCell]) rfl rfl (by decide) (by omega) HP.out.size ?_; intro v' w' hO' hg')
                have hM' := HM.out.kept hg' HMO.out
                have hP' := HP.out.grown hg' (fun k hk => by have := (Hown.out.lt k hk).1; exact this)
                go_wp2
                go_roundg (xs.length - (j + 1))
                case measure => omega
                case rel =>
                  have hrange := Hbfs.out.push (by omega) (c := (y : Int)) (by rw [Hm'.out, Int.toNat_natCast]; exact Hmem.out) ⟨by omega, by omega⟩ Hyw.out Hin.out
                  refine ⟨j + 1, n' + 1, L' ++ [(y : Int)], by omega, by go_num, hrange, ?_, by simp; omega, by omega, hM', ?_, hP', fun i hi hw => ?_⟩
                  · rw [getD_append_left' (by omega)]; exact Hm'.out
                  · rw [List.drop_append_of_le_length (by omega), List.map_append]; exact hO'
                  · by_cases e : i = j
                    · subst e; rw [Hy.out]; simp
                    · exact List.mem_append_left _ (Hall.out i (by omega) hw)
          · have hjl : j = xs.length := by omega
            subst hjl
            have hd1 := Hown.out.drop (k := 1) (by omega)
            have hnx := Hbfs.out.next (by omega) (fun c hc hw => by
              rw [Hm'.out, Int.toNat_natCast, Hxs.out] at hc
              obtain ⟨i, hi, e⟩ := mem_getD.1 hc
              rw [← e]; exact Hall.out i (by omega) (by rw [e]; exact hw))
            have Hnx := Lib.hid hnx
            clear hnx
            have hdd : List.drop (1 * 1) (List.map (Value.int .i64) (List.drop k L')) = List.map (Value.int .i64) (List.drop (k + 1) L') := by
              rw [← List.map_drop, List.drop_drop]
            by_cases hc1 : cq = 1
            · subst hc1
              obtain rfl : n' = 1 := by omega
              rw [if_pos rfl, hdd] at hd1
              have Hd1 := Lib.hid hd1
              clear hd1 hdd
              go_wp2
              go_roundg (xss.length - (k + 1))
              case measure => have := Hgk.out; omega
              case rel => exact ⟨L', k + 1, 0, by have := Hgk.out; omega, Hnx.out, by omega, Hseen.out, Hd1.out, hp⟩
            · rw [if_neg hc1, hdd] at hd1
              have Hd1 := Lib.hid hd1
              clear hd1 hdd
              go_wp2
              go_roundg (xss.length - (k + 1))
              case measure => have := Hgk.out; omega
              case rel => exact ⟨L', k + 1, n' - 1, by have := Hgk.out; omega, Hnx.out, by omega, Hseen.out, Hd1.out, hp⟩
      · have hkL : k = L.length := by omega
        subst hkL
        have Hbfs := Lib.hid hbfs; clear hbfs
        have Hseen := Lib.hid hseen; clear hseen
        have hn0 : n = 0 := by omega
        subst hn0
        obtain ⟨Aq, cq, rfl⟩ := hown.form
        have Hown := Lib.hid hown; clear hown
        go_wp2
        go_ret
        exact seen_post Hseen.out Hbfs.out.done hp

end Go.Proofs.Ytmhaaihgepldhaa

namespace Go.Proofs.Ytmhaaihgepldhaa
open Go.RowKit

set_option maxHeartbeats 2000000 in
set_option maxRecDepth 100000 in
theorem greach_any (v : Value) (xss : List (List Int)) (fr wo : Int) (w : World) (h : IntRows w v xss) (hG : GValid xss) (hf : 0 ≤ fr ∧ fr ≤ (xss.length : Int) - 1) (hwo : -1 ≤ wo ∧ wo ≤ (xss.length : Int) - 1) :
    Calls Try.prog 62 #[v, .int .i64 fr, .int .i64 wo] w (ReachPost xss wo fr w) := by
  have Hrows := Lib.hid h
  obtain ⟨A, c, rfl, hnc, hcm, hread⟩ := h
  obtain ⟨f, rfl⟩ : ∃ f : Nat, fr = f := ⟨fr.toNat, by omega⟩
  have hn64 := hG.2
  have HG := Lib.hid hG; clear hG
  go_enter Try.func62, Try.ntmps62
  go_wp2_with fail
  refine (gv_any _ _ _ Hrows.out true (by simp [HG.out])).mono ?_
  rintro e w' ⟨rfl, n0, rfl⟩
  go_wp2_with fail
  refine (l1In_t _ _ _ _ hf).mono ?_
  rintro e w' ⟨rfl, rfl⟩
  go_wp2_with fail
  refine (l1In_t _ _ _ _ hwo).mono ?_
  rintro e w' ⟨rfl, rfl⟩
  obtain ⟨hf1, hf2⟩ := hf
  have hfn : f < xss.length := by omega
  have hpd : Pure w (w.drewN n0) := Pure.drewN (Pure.refl _) _
  by_cases hne : (f : Int) = wo
  · have hd : ((f : Int) != wo) = false := by simp [hne]
    have Hne := Lib.hid hne; clear hne
    go_wp2_with (at_make; refine wl_make elBool rfl _ _ rfl w.heap.size _ _ _ _ xss.length rfl rfl rfl rfl (by omega) (by omega) hpd.size ?_; intro w1 hown hp hsz; have hp1 := hpd.trans hp; have hs0 : Hid (Seen w1 w.heap.size w.heap.size xss.length []) := Lib.hid (Seen.start hown); clear hown)
    have hpa := hp1.alloc (.cells #[] 3)
    have hse := hs0.out.pure (Pure.alloc (Pure.refl _) (.cells #[] 3))
    have Hse := Lib.hid hse; clear hse
    go_loopg [9, 8] 0 (fun gk i q wr => i = .int .i64 0 ∧ q = .slice (some ⟨w1.heap.size, 0, none⟩) 0 0 ∧ wr = w1.alloc (.cells #[] 3))
    case atStart => exact ⟨rfl, rfl, rfl⟩
    case round =>
      obtain ⟨rfl, rfl, rfl⟩ := hrel
      go_wp2
      go_ret
      exact seen_post Hse.out (fun x => by
        constructor
        · intro h; simp at h
        · intro h; exact absurd Hne.out h.ne_left) hpa
  · have hd : ((f : Int) != wo) = true := by simp [hne]
    have Hne := Lib.hid hne; clear hne
    go_wp2_with (at_make; go_must (refine wl_make elBool rfl _ _ rfl w.heap.size _ _ _ _ xss.length rfl rfl rfl rfl (by omega) (by omega) hpd.size ?_); intro w1 hown hp hsz; have hp1 := Lib.hid (hpd.trans hp); have hs0 : Hid (Seen w1 w.heap.size w.heap.size xss.length []) := Lib.hid (Seen.start hown); clear hown hp; go_wp2_with (at_builtin; go_must (refine wl_append1 elInt rfl _ _ rfl w.heap.size (.slice (some ⟨w1.heap.size, 0, none⟩) 0 0) 0 [] rfl (OwnO.empty_lit (w := w1) hp1.out.size) (w1.heap.size + 1) 1 [.int .i64 (f : Int)] rfl (by simp) rfl rfl (by decide) (by omega) (hp1.out.alloc _).size ?_); intro v2 w2 hO hg; go_must (have hp2 := Lib.hid ((hp1.out.alloc (.cells #[] 3)).grown hg (fun k hk => by simp [Value.ownBlock] at hk; subst hk; exact hp1.out.size)); have hs2 := Lib.hid ((hs0.out.pure (Pure.alloc (Pure.refl _) (.cells #[] 3))).kept hg (fun e => by simp [Value.ownBlock] at e; have : w.heap.size < w1.heap.size := hsz; omega)); have hc2 := hs2.out.cell hfn; have hf2 := hs2.out.frozen f; have HO := Lib.hid hO; clear hO hg)))
    have Hm := Lib.hid (hs2.out.mark hfn)
    have hp3 := Lib.hid (hp2.out.setCell (p := ⟨w.heap.size, f, none⟩) (Nat.le_refl _) (.bool true))
    have HO3 := Lib.hid (HO.out.kept (grown_setCell w2 ⟨w.heap.size, f, none⟩ (.bool true)) (fun k hk e => hs2.out.ne HO.out (by decide) (by rw [hk, e]; try rfl)))
    have hB0 := Lib.hid (Bfs.start (xss := xss) (wo := wo) (fr := (f : Int)) (by omega) (by omega) Hne.out)
    clear hc2 hf2
    go_loopg [9, 8] xss.length (fun gk i q wr => ∃ (L : List Int) (k : Nat), gk + k = xss.length ∧ i = .int .i64 k ∧ Bfs xss wo f L k ∧ Seen wr w.heap.size w.heap.size xss.length L ∧ OwnO wr w.heap.size 3 1 q L.length (L.map (.int .i64)) ∧ Pure w wr)
    case atStart => exact ⟨[(f : Int)], 0, rfl, rfl, hB0.out, Hm.out, HO3.out, hp3.out⟩
    case round =>
      clear Hm hp3 HO3 hB0 hp2 hs2 HO hp1 hs0 hsz hpd
      obtain ⟨L, k, hgk, rfl, hbfs, hseen, hown, hp⟩ := hrel
      have hlenL := hbfs.len
      by_cases hlt : k < L.length
      · obtain ⟨g, off, cq, rfl, hnq, hcq, hgB, hgz⟩ := hown.formSome (by omega)
        have hcell := hown.cell k (by omega)
        have hx0 : (L.map (Value.int .i64))[k]? = some (.int .i64 (L.getD k 0)) := by simp [List.getD_eq_getElem?_getD, hlt]
        rw [hx0] at hcell
        have hm := hbfs.rng (L.getD k 0) (by simp [List.getD_eq_getElem?_getD, hlt])
        obtain ⟨m, hm'⟩ : ∃ m : Nat, L.getD k 0 = m := ⟨(L.getD k 0).toNat, by omega⟩
        rw [hm'] at hcell hm
        have Hm' := Lib.hid hm'; clear hm' hx0
        obtain ⟨hm0, hm1⟩ := hm
        have hmx : m < xss.length := by omega
        obtain ⟨b, o, rfl, hb, hc⟩ := hread (by omega)
        obtain ⟨r, hr, hrow⟩ := hc m hmx
        have hr' := (hp.cell b (o + m) hb).trans hr
        clear hread hc hr
        obtain ⟨xs, Hxs⟩ : ∃ xs, Hid (xss.getD m [] = xs) := ⟨_, rfl⟩
        rw [Hxs.out] at hrow
        obtain ⟨A', c', rfl, hnc', hcm', hread'⟩ := hrow
        have Hbfs := Lib.hid hbfs; clear hbfs
        have Hseen := Lib.hid hseen; clear hseen
        have Hown := Lib.hid hown; clear hown
        have Hgk := Lib.hid hgk; clear hgk
        go_wp2
        go_loopg [11, 8] xs.length (fun gj i q wr => ∃ (j : Nat) (L' : List Int), gj + j = xs.length ∧ i = .int .i64 j ∧ Bfs xss wo f L' k ∧ L'.getD k 0 = m ∧ k < L'.length ∧ Seen wr w.heap.size w.heap.size xss.length L' ∧ OwnO wr w.heap.size 3 1 q L'.length (L'.map (.int .i64)) ∧ Pure w wr ∧ ∀ i, i < j → xs.getD i 0 ≠ wo → xs.getD i 0 ∈ L')
        case atStart => exact ⟨0, L, rfl, rfl, Hbfs.out, Hm'.out, hlt, Hseen.out, Hown.out, hp, fun i hi => absurd hi (by omega)⟩
        case round =>
          clear hcell hr' hp hgB hgz hnq Hbfs Hseen Hown Hm' hlt hlenL
          obtain ⟨j, L', hgj, rfl, hbfs, hm', hlt, hseen, hown, hp, hall⟩ := hrel
          have Hbfs := Lib.hid hbfs
          have Hm' := Lib.hid hm'
          have Hseen := Lib.hid hseen
          have Hown := Lib.hid hown
          have Hall := Lib.hid hall
          have Hgj := Lib.hid hgj
          clear hbfs hm' hseen hown hall hgj
          have hlen := Hbfs.out.len
          obtain ⟨g, off, cq, rfl, hnq, hcq, hgB, hgz⟩ := Hown.out.formSome (by omega)
          by_cases hlj : j < xs.length
          · obtain ⟨b', o', rfl, hb', hc'⟩ := hread' (by omega)
            have hx := (hp.cell b' (o' + j) hb').trans (hc' j (by omega))
            have hmem : xs.getD j 0 ∈ xss.getD m [] := by rw [Hxs.out]; simp [List.getD_eq_getElem?_getD, hlj]
            have hrg := HG.out.mem hmem
            obtain ⟨y, hy⟩ : ∃ y : Nat, xs.getD j 0 = y := ⟨(xs.getD j 0).toNat, by omega⟩
            rw [hy] at hx hmem hrg
            have Hy := Lib.hid hy
            have Hmem := Lib.hid hmem
            clear hread' hc' hy hmem
            obtain ⟨hr1, hr2⟩ := hrg
            have hyn : y < xss.length := by omega
            have hcell := Hseen.out.cell hyn
            have hfz := Hseen.out.frozen y
            by_cases hyw : (y : Int) = wo
            · have hd : ((y : Int) != wo) = false := by simp [hyw]
              have Hyw := Lib.hid hyw; clear hyw hcell
              go_wp2
              go_roundg (xs.length - (j + 1))
              case measure => have := Hgj.out; omega
              case rel =>
                refine ⟨j + 1, L', by have := Hgj.out; omega, by go_num, Hbfs.out, Hm'.out, hlt, Hseen.out, Hown.out, hp, fun i hi hw => ?_⟩
                by_cases e : i = j
                · subst e; rw [Hy.out] at hw; exact absurd Hyw.out hw
                · exact Hall.out i (by omega) hw
            · have hd : ((y : Int) != wo) = true := by simp [hyw]
              have Hyw := Lib.hid hyw; clear hyw
              by_cases hin : (y : Int) ∈ L'
              · rw [decide_eq_true hin] at hcell
                have Hin := Lib.hid hin; clear hin
                go_wp2
                go_roundg (xs.length - (j + 1))
                case measure => have := Hgj.out; omega
                case rel =>
                  refine ⟨j + 1, L', by have := Hgj.out; omega, by go_num, Hbfs.out, Hm'.out, hlt, Hseen.out, Hown.out, hp, fun i hi hw => ?_⟩
                  by_cases e : i = j
                  · subst e; rw [Hy.out]; exact Hin.out
                  · exact Hall.out i (by omega) hw
              · rw [decide_eq_false hin] at hcell
                have Hin := Lib.hid hin; clear hin
                have hM := Hseen.out.mark hyn
                have hO := Hown.out.kept (grown_setCell wr ⟨w.heap.size, y, none⟩ (.bool true)) (fun k hk e => Hseen.out.ne Hown.out (by decide) (by rw [hk, e]; try rfl))
                have hP := Pure.setCell (p := ⟨w.heap.size, y, none⟩) hp (Nat.le_refl _) (.bool true)
                have hMO := Hseen.out.ne Hown.out (by decide)
                have HMO := Lib.hid hMO
                have HM := Lib.hid hM
                have HO := Lib.hid hO
                have HP := Lib.hid hP
                have hx2 : (wr.setCell ⟨w.heap.size, y, none⟩ (.bool true)).cell? ⟨b', o' + j, none⟩ = some (.int .i64 y) := by
                  rw [World.cell?_setCell_other _ _ _ _ (by intro e; injection e with e1; omega)]; exact hx
                clear hM hO hP hMO
                go_wp2_with (at_builtin; go_must (refine wl_append1 elInt rfl _ _ rfl w.heap.size (.slice (some ⟨g, off, none⟩) L'.length cq) L'.length (L'.map (.int .i64)) rfl HO.out wr.heap.size 1 [.int .i64 (y : Int)] rfl (by simp [World.setCell]) rfl rfl (by decide) (by omega) HP.out.size ?_); intro v' w' hO' hg')
                have hM' := HM.out.kept hg' HMO.out
                have hP' := HP.out.grown hg' (fun k hk => by have := (Hown.out.lt k hk).1; exact this)
                go_wp2
                go_roundg (xs.length - (j + 1))
                case measure => have := Hgj.out; omega
                case rel =>
                  have hrange := Hbfs.out.push (by omega) (c := (y : Int)) (by rw [Hm'.out, Int.toNat_natCast]; exact Hmem.out) ⟨by omega, by omega⟩ Hyw.out Hin.out
                  refine ⟨j + 1, L' ++ [(y : Int)], by have := Hgj.out; omega, by go_num, hrange, ?_, by simp; omega, hM', by simpa using hO', hP', fun i hi hw => ?_⟩
                  · rw [getD_append_left' (by omega)]; exact Hm'.out
                  · by_cases e : i = j
                    · subst e; rw [Hy.out]; simp
                    · exact List.mem_append_left _ (Hall.out i (by omega) hw)
          · have hjl : j = xs.length := by have := Hgj.out; omega
            subst hjl
            have hnx := Hbfs.out.next (by omega) (fun c hc hw => by
              rw [Hm'.out, Int.toNat_natCast, Hxs.out] at hc
              obtain ⟨i, hi, e⟩ := mem_getD.1 hc
              rw [← e]; exact Hall.out i (by omega) (by rw [e]; exact hw))
            have Hnx := Lib.hid hnx
            clear hnx
            go_wp2
            go_roundg (xss.length - (k + 1))
            case measure => have := Hgk.out; omega
            case rel => exact ⟨L', k + 1, by have := Hgk.out; omega, by go_num, Hnx.out, Hseen.out, Hown.out, hp⟩
      · have hkL : k = L.length := by have := hbfs.hk; omega
        subst hkL
        have Hbfs := Lib.hid hbfs; clear hbfs
        have Hseen := Lib.hid hseen; clear hseen
        obtain ⟨Aq, cq, rfl⟩ := hown.form
        have Hown := Lib.hid hown; clear hown
        go_wp2
        go_ret
        exact seen_post Hseen.out Hbfs.out.done hp
end Go.Proofs.Ytmhaaihgepldhaa

namespace Go.Proofs.Ytmhaaihgepldhaa
open Go.RowKit

def PD (xss : List (List Int)) (a b en : Int) : Prop := RC xss (-1) a en ∧ (a = b ∨ ¬ RC xss b a en)
def InG (xss : List (List Int)) (a : Int) : Prop := 0 ≤ a ∧ a ≤ (xss.length : Int) - 1

/-- What a call of reach gives, at one node. -/
theorem ReachPost.at_ {xss : List (List Int)} {wo fr : Int} {w : World} {e : Ending} {w' : World} (h : ReachPost xss wo fr w e w') (en : Int) (he : InG xss en) (B : Bool) (hB : B = true ↔ RC xss wo fr en) :
    ∃ b o c, e = .returned (.slice (some ⟨b, o, none⟩) xss.length c) ∧ w'.cell? ⟨b, o + en.toNat, none⟩ = some (.bool B) ∧ b < w'.heap.size ∧ Pure w w' := by
  obtain ⟨v, bs, rfl, hv, hl, hbs, hp⟩ := h
  obtain ⟨A, c, rfl, h1, h2, h3⟩ := hv
  obtain ⟨h4, h5⟩ := he
  obtain ⟨b, o, rfl, hb, hc⟩ := h3 (by omega)
  refine ⟨b, o, c, by rw [hl], ?_, hb, hp⟩
  rw [hc en.toNat (by omega)]
  have := hbs en.toNat (by omega)
  rw [Int.toNat_of_nonneg h4] at this
  have e : bs.getD en.toNat false = B := by rw [Bool.eq_iff_iff, this, hB]
  simp only [e]

set_option maxHeartbeats 400000 in
theorem ipd_any (v : Value) (xss : List (List Int)) (a b en : Int) (w : World) (h : IntRows w v xss) (hG : GValid xss) (ha : InG xss a) (he : InG xss en) (B : Bool) (hB : B = true ↔ PD xss a b en) :
    Calls Try.prog 61 #[v, .int .i64 a, .int .i64 b, .int .i64 en] w fun e w' => e = .returned (.bool B) ∧ Pure w w' := by
  have HB := Lib.hid hB; clear hB
  have HG := Lib.hid hG; clear hG
  obtain ⟨he1, he2⟩ := id he
  by_cases h1 : RC xss (-1) a en
  · have H1 := Lib.hid h1; clear h1
    by_cases hab : a = b
    · have hd : (a == b) = true := by simp [hab]
      have Hab := Lib.hid hab; clear hab
      go_enter Try.func61, Try.ntmps61
      go_wp2_with fail
      refine (reach_any _ _ _ _ _ h HG.out ha).mono ?_
      intro e w1 hr
      obtain ⟨b1, o1, c1, rfl, hc1, hb1, hp1⟩ := hr.at_ en he true (by simp [H1.out])
      clear hr
      go_wp2
      go_ret
      refine ⟨ret_bool ?_, hp1⟩
      exact (HB.out.2 ⟨H1.out, .inl Hab.out⟩).symm
    · have hd : (a == b) = false := by simp [hab]
      have Hab := Lib.hid hab; clear hab
      rcases Classical.em (RC xss b a en) with h2 | h2
      all_goals
        have H2 := Lib.hid h2; clear h2
        go_enter Try.func61, Try.ntmps61
        go_wp2_with fail
        refine (reach_any _ _ _ _ _ h HG.out ha).mono ?_
        intro e w1 hr
        obtain ⟨b1, o1, c1, rfl, hc1, hb1, hp1⟩ := hr.at_ en he true (by simp [H1.out])
        clear hr
        go_wp2_with fail
        refine (reach_any _ _ _ _ _ (h.keep hp1) HG.out ha).mono ?_
        intro e w2 hr
      · obtain ⟨b2, o2, c2, rfl, hc2, hb2, hp2⟩ := hr.at_ en he true (by simp [H2.out])
        clear hr
        go_wp2
        go_ret
        refine ⟨ret_bool ?_, hp1.trans hp2⟩
        cases hb : B
        · rfl
        · rcases (HB.out.1 hb).2 with h | h
          · exact absurd h Hab.out
          · exact absurd H2.out h
      · obtain ⟨b2, o2, c2, rfl, hc2, hb2, hp2⟩ := hr.at_ en he false (by simp [H2.out])
        clear hr
        go_wp2
        go_ret
        refine ⟨ret_bool ?_, hp1.trans hp2⟩
        exact (HB.out.2 ⟨H1.out, .inr H2.out⟩).symm
  · have H1 := Lib.hid h1; clear h1
    go_enter Try.func61, Try.ntmps61
    go_wp2_with fail
    refine (reach_any _ _ _ _ _ h HG.out ha).mono ?_
    intro e w1 hr
    obtain ⟨b1, o1, c1, rfl, hc1, hb1, hp1⟩ := hr.at_ en he false (by simp [H1.out])
    clear hr
    go_wp2
    go_ret
    refine ⟨ret_bool ?_, hp1⟩
    cases hb : B
    · rfl
    · exact absurd (HB.out.1 hb).1 H1.out

-- The reference's PostDominates, for nodes of a valid graph.
set_option maxHeartbeats 400000 in
theorem spd_in (v : Value) (xss : List (List Int)) (a b en : Int) (w : World) (h : IntRows w v xss) (hG : GValid xss) (ha : InG xss a) (hb : InG xss b) (he : InG xss en) (B : Bool) (hB : B = true ↔ PD xss a b en) :
    Calls Try.prog 25 #[v, .int .i64 a, .int .i64 b, .int .i64 en] w fun e w' => e = .returned (.bool B) ∧ Pure w w' := by
  have HB := Lib.hid hB; clear hB
  have HG := Lib.hid hG; clear hG
  have H := Lib.hid h
  obtain ⟨A, cc, rfl, hx1, hx2, hx3⟩ := h
  clear hx3
  obtain ⟨he1, he2⟩ := id he
  go_enter Try.func25, Try.ntmps25
  go_wp2_with fail
  refine (gv_any _ _ _ H.out true (by simp [HG.out])).mono ?_
  rintro e w' ⟨rfl, n0, rfl⟩
  go_wp2_with fail
  refine (l1In_t _ _ _ _ ha).mono ?_
  rintro e w' ⟨rfl, rfl⟩
  go_wp2_with fail
  refine (l1In_t _ _ _ _ hb).mono ?_
  rintro e w' ⟨rfl, rfl⟩
  go_wp2_with fail
  refine (l1In_t _ _ _ _ he).mono ?_
  rintro e w' ⟨rfl, rfl⟩
  have hpd : Pure w (w.drewN n0) := Pure.drewN (Pure.refl _) _
  go_wp2_with fail
  refine (greach_any _ _ _ _ _ (H.out.keep hpd) HG.out ha (by have := ha.2; have := ha.1; omega)).mono ?_
  intro e w1 hr
  by_cases h1 : RC xss (-1) a en
  · obtain ⟨b1, o1, c1, rfl, hc1, hb1, hp1⟩ := hr.at_ en he true (by simp [h1])
    have H1 := Lib.hid h1; clear h1 hr
    have hp01 := hpd.trans hp1
    by_cases hab : a = b
    · have hd : (a == b) = true := by simp [hab]
      have Hab := Lib.hid hab; clear hab
      go_wp2
      go_ret
      refine ⟨ret_bool ?_, hp01⟩
      exact (HB.out.2 ⟨H1.out, .inl Hab.out⟩).symm
    · have hd : (a == b) = false := by simp [hab]
      have Hab := Lib.hid hab; clear hab
      go_wp2_with fail
      refine (greach_any _ _ _ _ _ (H.out.keep hp01) HG.out ha (by have := hb.2; have := hb.1; omega)).mono ?_
      intro e w2 hr
      rcases Classical.em (RC xss b a en) with h2 | h2
      · obtain ⟨b2, o2, c2, rfl, hc2, hb2, hp2⟩ := hr.at_ en he true (by simp [h2])
        have H2 := Lib.hid h2; clear h2 hr
        go_wp2
        go_ret
        refine ⟨ret_bool ?_, hp01.trans hp2⟩
        cases hb : B
        · rfl
        · rcases (HB.out.1 hb).2 with h | h
          · exact absurd h Hab.out
          · exact absurd H2.out h
      · obtain ⟨b2, o2, c2, rfl, hc2, hb2, hp2⟩ := hr.at_ en he false (by simp [h2])
        have H2 := Lib.hid h2; clear h2 hr
        go_wp2
        go_ret
        refine ⟨ret_bool ?_, hp01.trans hp2⟩
        exact (HB.out.2 ⟨H1.out, .inr H2.out⟩).symm
  · obtain ⟨b1, o1, c1, rfl, hc1, hb1, hp1⟩ := hr.at_ en he false (by simp [h1])
    have H1 := Lib.hid h1; clear h1 hr
    have hp01 := hpd.trans hp1
    go_wp2
    go_ret
    refine ⟨ret_bool ?_, hp01⟩
    cases hb : B
    · rfl
    · exact absurd (HB.out.1 hb).1 H1.out

end Go.Proofs.Ytmhaaihgepldhaa

namespace Go.Proofs.Ytmhaaihgepldhaa
open Go.RowKit

def GoodP (xss : List (List Int)) (a en b : Int) : Prop := InG xss b ∧ b ≠ a ∧ PD xss a b en ∧ ∀ c, InG xss c → c ≠ a → c ≠ b → PD xss a c en → PD xss b c en
def IsNP (xss : List (List Int)) (a en r : Int) : Prop := (r = -1 ∧ ∀ b, ¬ GoodP xss a en b) ∨ (GoodP xss a en r ∧ ∀ b, b < r → ¬ GoodP xss a en b)
theorem IsNP.unique {xss : List (List Int)} {a en r s : Int} (h : IsNP xss a en r) (k : IsNP xss a en s) : r = s := by
  rcases h with ⟨rfl, h⟩ | ⟨h1, h2⟩
  · rcases k with ⟨rfl, _⟩ | ⟨k1, _⟩
    · rfl
    · exact absurd k1 (h _)
  · rcases k with ⟨rfl, k⟩ | ⟨k1, k2⟩
    · exact absurd h1 (k _)
    · have := h2 s
      have := k2 r
      rcases Int.lt_trichotomy r s with e | e | e
      · exact absurd h1 (k2 _ e)
      · exact e
      · exact absurd k1 (h2 _ e)

def NPPost (xss : List (List Int)) (a en : Int) (w : World) (e : Ending) (w' : World) : Prop := ∃ r : Int, e = .returned (.int .i64 r) ∧ IsNP xss a en r ∧ Pure w w'

/-- What post-dominates another node has itself a way to the end. -/
theorem PD.self {xss : List (List Int)} {a b en : Int} (hG : GValid xss) (ha : 0 ≤ a) (h : PD xss a b en) (hne : b ≠ a) : PD xss b b en := by
  obtain ⟨h1, h2⟩ := h
  have h2 : ¬ RC xss b a en := by
    rcases h2 with h2 | h2
    · exact absurd h2.symm hne
    · exact h2
  refine ⟨?_, .inl rfl⟩
  -- along the way from a: either b has been met, and from there the node is reached, or it is reached without b
  have key : ∀ x, RC xss (-1) a x → RC xss b a x ∨ RC xss (-1) b x := by
    intro x hx
    induction hx with
    | refl => exact .inl (.refl _ (fun e => hne e.symm))
    | step y z hy hc hw ih =>
      rcases ih with ih | ih
      · by_cases e : z = b
        · subst e
          exact .inr (.refl _ (by have := (hG.mem hc).1; omega))
        · exact .inl (.step _ _ _ ih hc e)
      · exact .inr (.step _ _ _ ih hc hw)
  exact (key en h1).resolve_left h2

set_option maxHeartbeats 1000000 in
set_option maxRecDepth 100000 in
theorem snp_in (v : Value) (xss : List (List Int)) (a en : Int) (w : World) (h : IntRows w v xss) (hG : GValid xss) (ha : InG xss a) (he : InG xss en) :
    Calls Try.prog 14 #[v, .int .i64 a, .int .i64 en] w (NPPost xss a en w) := by
  have HG := Lib.hid hG; clear hG
  have H := Lib.hid h
  obtain ⟨A, cc, rfl, hx1, hx2, hx3⟩ := h
  clear hx3
  have hn64 := HG.out.2
  go_enter Try.func14, Try.ntmps14
  go_wp2_with fail
  refine (gv_any _ _ _ H.out true (by simp [HG.out])).mono ?_
  rintro e w' ⟨rfl, n0, rfl⟩
  go_wp2_with fail
  refine (l1In_t _ _ _ _ ha).mono ?_
  rintro e w' ⟨rfl, rfl⟩
  go_wp2_with fail
  refine (l1In_t _ _ _ _ he).mono ?_
  rintro e w' ⟨rfl, rfl⟩
  go_wp2_with fail
  go_loopg [7] xss.length (fun gk i wr => ∃ k : Nat, gk + k = xss.length ∧ i = .int .i64 k ∧ Pure w wr ∧ ∀ b : Int, b < k → ¬ GoodP xss a en b)
  case atStart => exact ⟨0, rfl, rfl, Pure.drewN (Pure.refl _) _, fun b hb hg => by have := hg.1.1; omega⟩
  case round =>
    obtain ⟨k, hgk, rfl, hp, hall⟩ := hrel
    have Hgk := Lib.hid hgk
    have Hall := Lib.hid hall
    have Ha := Lib.hid ha
    have He := Lib.hid he
    have hkn : k ≤ xss.length := by omega
    clear hgk hall
    by_cases hlt : k < xss.length
    · -- the inner loop's end, once for all ways in
      by_cases hka : (k : Int) = a
      · have hd : ((k : Int) != a) = false := by simp [hka]
        have Hka := Lib.hid hka; clear hka ha he
        go_wp2_with fail
        go_loopg [9, 8] 0 (fun gc c g wr => c = .int .i64 0 ∧ g = .bool false ∧ Pure w wr)
        case atStart => exact ⟨rfl, rfl, hp⟩
        case round =>
          clear hp
          obtain ⟨rfl, rfl, hp⟩ := hrel
          go_wp2
          go_roundg (xss.length - (k + 1))
          case measure => have := Hgk.out; omega
          case rel =>
            refine ⟨k + 1, by have := Hgk.out; omega, by go_num, hp, fun b hb hg => ?_⟩
            by_cases e : b = k
            · exact hg.2.1 (e.trans Hka.out)
            · exact Hall.out b (by omega) hg
      · have hd : ((k : Int) != a) = true := by simp [hka]
        have Hka := Lib.hid hka; clear hka ha he
        rcases Classical.em (PD xss a k en) with hpd | hpd
        · have Hpd := Lib.hid hpd; clear hpd
          go_wp2_with (go_at_call 25; go_must (refine (spd_in _ _ _ _ _ _ (H.out.keep hp) HG.out Ha.out ⟨by omega, by omega⟩ He.out true (by simp [Hpd.out])).mono ?_); rintro e w1 ⟨rfl, hp1⟩)
          have hp2 := hp.trans hp1
          go_loopg [9, 8] xss.length (fun gc c g wr => ∃ (c' : Nat) (g' : Bool), gc + c' = xss.length ∧ c = .int .i64 c' ∧ g = .bool g' ∧ Pure w wr ∧ (g' = true → ∀ d : Int, InG xss d → d < c' → d ≠ a → d ≠ k → PD xss a d en → PD xss k d en) ∧ (g' = false → ¬ GoodP xss a en k))
          case atStart => exact ⟨0, true, rfl, rfl, rfl, hp2, fun _ d hd hlt => absurd hd.1 (by omega), fun h => by cases h⟩
          case round =>
            clear hp hp2
            obtain ⟨c, g, hgc, rfl, rfl, hp, hT, hF⟩ := hrel
            have Hgc := Lib.hid hgc
            have HT := Lib.hid hT
            have HF := Lib.hid hF
            have hcn : c ≤ xss.length := by omega
            clear hgc hT hF
            cases g
            · go_wp2
              all_goals
                go_roundg (xss.length - (k + 1))
                case measure => have := Hgk.out; omega
                case rel =>
                  refine ⟨k + 1, by have := Hgk.out; omega, by go_num, hp, fun b hb hg => ?_⟩
                  by_cases e : b = k
                  · rw [e] at hg; exact HF.out (by trivial) hg
                  · exact Hall.out b (by omega) hg
            · by_cases hltc : c < xss.length
              · by_cases hca : (c : Int) = a
                · have hd : ((c : Int) == a) = true := by simp [hca]
                  have Hca := Lib.hid hca; clear hca
                  go_wp2
                  go_roundg (xss.length - (c + 1))
                  case measure => have := Hgc.out; omega
                  case rel =>
                    refine ⟨c + 1, true, by have := Hgc.out; omega, by go_num, rfl, hp, fun _ d hd1 hd2 hd3 hd4 hd5 => ?_, fun h => by cases h⟩
                    by_cases e : d = c
                    · exact absurd (e.trans Hca.out) hd3
                    · exact HT.out (by trivial) d hd1 (by omega) hd3 hd4 hd5
                · have hd : ((c : Int) == a) = false := by simp [hca]
                  have Hca := Lib.hid hca; clear hca
                  by_cases hck : (c : Int) = k
                  · have hd : ((c : Int) == k) = true := by simp [hck]
                    have Hck := Lib.hid hck; clear hck
                    go_wp2
                    go_roundg (xss.length - (c + 1))
                    case measure => have := Hgc.out; omega
                    case rel =>
                      refine ⟨c + 1, true, by have := Hgc.out; omega, by go_num, rfl, hp, fun _ d hd1 hd2 hd3 hd4 hd5 => ?_, fun h => by cases h⟩
                      by_cases e : d = c
                      · exact absurd (e.trans Hck.out) hd4
                      · exact HT.out (by trivial) d hd1 (by omega) hd3 hd4 hd5
                  · have hd : ((c : Int) == k) = false := by simp [hck]
                    have Hck := Lib.hid hck; clear hck
                    rcases Classical.em (PD xss a c en) with h1 | h1
                    · have H1 := Lib.hid h1; clear h1
                      rcases Classical.em (PD xss k c en) with h2 | h2
                      · have H2 := Lib.hid h2; clear h2
                        go_wp2_with fail
                        refine (spd_in _ _ _ _ _ _ (H.out.keep hp) HG.out Ha.out ⟨by omega, by omega⟩ He.out true (by simp [H1.out])).mono ?_
                        rintro e w2 ⟨rfl, hp2⟩
                        have hp3 := hp.trans hp2
                        go_wp2_with fail
                        refine (spd_in _ _ _ _ _ _ (H.out.keep hp3) HG.out ⟨by omega, by omega⟩ ⟨by omega, by omega⟩ He.out true (by simp [H2.out])).mono ?_
                        rintro e w3 ⟨rfl, hp4⟩
                        have hp5 := hp3.trans hp4
                        go_wp2
                        go_roundg (xss.length - (c + 1))
                        case measure => have := Hgc.out; omega
                        case rel =>
                          refine ⟨c + 1, true, by have := Hgc.out; omega, by go_num, rfl, hp5, fun _ d hd1 hd2 hd3 hd4 hd5 => ?_, fun h => by cases h⟩
                          by_cases e : d = c
                          · rw [e]; exact H2.out
                          · exact HT.out (by trivial) d hd1 (by omega) hd3 hd4 hd5
                      · have H2 := Lib.hid h2; clear h2
                        go_wp2_with fail
                        refine (spd_in _ _ _ _ _ _ (H.out.keep hp) HG.out Ha.out ⟨by omega, by omega⟩ He.out true (by simp [H1.out])).mono ?_
                        rintro e w2 ⟨rfl, hp2⟩
                        have hp3 := hp.trans hp2
                        go_wp2_with fail
                        refine (spd_in _ _ _ _ _ _ (H.out.keep hp3) HG.out ⟨by omega, by omega⟩ ⟨by omega, by omega⟩ He.out false (by simp [H2.out])).mono ?_
                        rintro e w3 ⟨rfl, hp4⟩
                        have hp5 := hp3.trans hp4
                        go_wp2
                        go_roundg (xss.length - (c + 1))
                        case measure => have := Hgc.out; omega
                        case rel =>
                          exact ⟨c + 1, false, by have := Hgc.out; omega, by go_num, rfl, hp5, (fun h => by cases h), fun _ hg => H2.out (hg.2.2.2 c ⟨by omega, by omega⟩ Hca.out Hck.out H1.out)⟩
                    · have H1 := Lib.hid h1; clear h1
                      go_wp2_with fail
                      refine (spd_in _ _ _ _ _ _ (H.out.keep hp) HG.out Ha.out ⟨by omega, by omega⟩ He.out false (by simp [H1.out])).mono ?_
                      rintro e w2 ⟨rfl, hp2⟩
                      have hp3 := hp.trans hp2
                      go_wp2
                      go_roundg (xss.length - (c + 1))
                      case measure => have := Hgc.out; omega
                      case rel =>
                        refine ⟨c + 1, true, by have := Hgc.out; omega, by go_num, rfl, hp3, fun _ d hd1 hd2 hd3 hd4 hd5 => ?_, fun h => by cases h⟩
                        by_cases e : d = c
                        · rw [e] at hd5; exact absurd hd5 H1.out
                        · exact HT.out (by trivial) d hd1 (by omega) hd3 hd4 hd5
              · go_wp2
                go_ret
                exact ⟨_, rfl, .inr ⟨⟨⟨by omega, by omega⟩, Hka.out, Hpd.out, fun d hd1 hd3 hd4 hd5 => HT.out (by trivial) d hd1 (by have := hd1.2; omega) hd3 hd4 hd5⟩, Hall.out⟩, hp⟩
        · have Hpd := Lib.hid hpd; clear hpd
          go_wp2_with (go_at_call 25; go_must (refine (spd_in _ _ _ _ _ _ (H.out.keep hp) HG.out Ha.out ⟨by omega, by omega⟩ He.out false (by simp [Hpd.out])).mono ?_); rintro e w1 ⟨rfl, hp1⟩)
          have hp2 := hp.trans hp1
          go_loopg [9, 8] 0 (fun gc c g wr => c = .int .i64 0 ∧ g = .bool false ∧ Pure w wr)
          case atStart => exact ⟨rfl, rfl, hp2⟩
          case round =>
            clear hp hp2
            obtain ⟨rfl, rfl, hp⟩ := hrel
            go_wp2
            go_roundg (xss.length - (k + 1))
            case measure => have := Hgk.out; omega
            case rel =>
              refine ⟨k + 1, by have := Hgk.out; omega, by go_num, hp, fun b hb hg => ?_⟩
              by_cases e : b = k
              · rw [e] at hg; exact Hpd.out hg.2.2.1
              · exact Hall.out b (by omega) hg
    · go_wp2
      go_ret
      exact ⟨_, rfl, .inl ⟨rfl, fun b hg => Hall.out b (by have := hg.1.2; omega) hg⟩, hp⟩

end Go.Proofs.Ytmhaaihgepldhaa

namespace Go.Proofs.Ytmhaaihgepldhaa
open Go.RowKit

theorem mem_of_getD {ps : List Int} {i : Nat} (h : i < ps.length) : ps.getD i 0 ∈ ps := by simp [List.getD_eq_getElem?_getD, h]

set_option maxHeartbeats 1000000 in
set_option maxRecDepth 100000 in
theorem inp_in (v : Value) (xss : List (List Int)) (a en : Int) (w : World) (h : IntRows w v xss) (hG : GValid xss) (ha : InG xss a) (he : InG xss en) :
    Calls Try.prog 51 #[v, .int .i64 a, .int .i64 en] w (NPPost xss a en w) := by
  have HG := Lib.hid hG; clear hG
  have H := Lib.hid h
  obtain ⟨A, cc, rfl, hx1, hx2, hx3⟩ := h
  clear hx3
  have hn64 := HG.out.2
  have Ha := Lib.hid ha
  have He := Lib.hid he
  clear ha he
  go_enter Try.func51, Try.ntmps51
  go_wp2_with fail
  go_loopg [16, 7] xss.length (fun gk i q wr => ∃ (k : Nat) (ps : List Int), gk + k = xss.length ∧ i = .int .i64 k ∧ Pure w wr ∧ OwnO wr w.heap.size 3 1 q ps.length (ps.map (.int .i64)) ∧ ps.length ≤ k ∧ ps.Pairwise (· < ·) ∧ ∀ x : Int, x ∈ ps ↔ 0 ≤ x ∧ x < k ∧ x ≠ a ∧ PD xss a x en)
  case atStart => exact ⟨0, [], rfl, rfl, Pure.refl _, OwnO.of_own (World.ownsRow_nil _ _ _ _), Nat.le_refl _, .nil, fun x => by simp; omega⟩
  case round =>
    obtain ⟨k, ps, hgk, rfl, hp, hown, hpl, hsrt, hps⟩ := hrel
    have Hgk := Lib.hid hgk
    have Hown := Lib.hid hown
    have Hsrt := Lib.hid hsrt
    have Hps := Lib.hid hps
    have hkn : k ≤ xss.length := by omega
    clear hgk hown hsrt hps
    obtain ⟨Aq, cq, rfl⟩ := Hown.out.form
    by_cases hlt : k < xss.length
    · by_cases hka : (k : Int) = a
      · have hd : ((k : Int) != a) = false := by simp [hka]
        have Hka := Lib.hid hka; clear hka
        go_wp2
        go_roundg (xss.length - (k + 1))
        case measure => have := Hgk.out; omega
        case rel =>
          refine ⟨k + 1, ps, by have := Hgk.out; omega, by go_num, hp, Hown.out, by omega, Hsrt.out, fun x => ?_⟩
          rw [Hps.out x]
          constructor
          · rintro ⟨h1, h2, h3⟩; exact ⟨h1, by omega, h3⟩
          · rintro ⟨h1, h2, h3, h4⟩; exact ⟨h1, by have := Hka.out; omega, h3, h4⟩
      · have hd : ((k : Int) != a) = true := by simp [hka]
        have Hka := Lib.hid hka; clear hka
        rcases Classical.em (PD xss a k en) with hpd | hpd
        · have Hpd := Lib.hid hpd; clear hpd
          go_wp2_with fail
          refine (ipd_any _ _ _ _ _ _ (H.out.keep hp) HG.out Ha.out He.out true (by simp [Hpd.out])).mono ?_
          rintro e w1 ⟨rfl, hp1⟩
          have hp2 := hp.trans hp1
          have HO := Lib.hid (Hown.out.pure hp1)
          go_wp2_with (at_builtin; go_must (refine wl_append1 elInt rfl _ _ rfl w.heap.size (.slice Aq ps.length cq) ps.length (ps.map (.int .i64)) rfl HO.out w1.heap.size 1 [.int .i64 (k : Int)] rfl rfl rfl rfl (by decide) (by omega) hp2.size ?_); intro v' w' hO' hg')
          have hP' := hp2.grown hg' (fun k hk => (HO.out.lt k hk).1)
          have HO' := Lib.hid hO'
          clear hO'
          go_wp2
          go_roundg (xss.length - (k + 1))
          case measure => have := Hgk.out; omega
          case rel =>
            refine ⟨k + 1, ps ++ [(k : Int)], by have := Hgk.out; omega, by go_num, hP', by simpa using HO'.out, by simp; omega, ?_, fun x => ?_⟩
            · rw [List.pairwise_append]
              refine ⟨Hsrt.out, by simp, fun x hx y hy => ?_⟩
              simp at hy
              have := ((Hps.out x).1 hx).2.1
              omega
            · rw [List.mem_append, Hps.out x]
              simp only [List.mem_singleton]
              constructor
              · rintro (⟨h1, h2, h3⟩ | rfl)
                · exact ⟨h1, by omega, h3⟩
                · exact ⟨by omega, by omega, Hka.out, Hpd.out⟩
              · rintro ⟨h1, h2, h3, h4⟩
                by_cases e : x = k
                · exact .inr e
                · exact .inl ⟨h1, by omega, h3, h4⟩
        · have Hpd := Lib.hid hpd; clear hpd
          go_wp2_with (go_at_call 61; go_must (refine (ipd_any _ _ _ _ _ _ (H.out.keep hp) HG.out Ha.out He.out false (by simp [Hpd.out])).mono ?_); rintro e w1 ⟨rfl, hp1⟩)
          have hp2 := hp.trans hp1
          go_roundg (xss.length - (k + 1))
          case measure => have := Hgk.out; omega
          case rel =>
            refine ⟨k + 1, ps, by have := Hgk.out; omega, by go_num, hp2, Hown.out.pure hp1, by omega, Hsrt.out, fun x => ?_⟩
            rw [Hps.out x]
            constructor
            · rintro ⟨h1, h2, h3⟩; exact ⟨h1, by omega, h3⟩
            · rintro ⟨h1, h2, h3, h4⟩
              refine ⟨h1, ?_, h3, h4⟩
              by_cases e : x = k
              · rw [e] at h4; exact absurd h4 Hpd.out
              · omega
    · -- all posts are known
      have hps' : ∀ x : Int, x ∈ ps ↔ InG xss x ∧ x ≠ a ∧ PD xss a x en := fun x => by
        rw [Hps.out x]
        constructor
        · rintro ⟨h1, h2, h3⟩; exact ⟨⟨h1, by omega⟩, h3⟩
        · rintro ⟨h1, h3⟩; exact ⟨h1.1, by have := h1.2; omega, h3⟩
      have HP := Lib.hid hps'
      clear hps' Hps
      have hgood : ∀ b : Int, GoodP xss a en b ↔ b ∈ ps ∧ ∀ c, c ∈ ps → PD xss b c en := fun b => by
        constructor
        · rintro ⟨h1, h2, h3, h4⟩
          refine ⟨(HP.out b).2 ⟨h1, h2, h3⟩, fun c hc => ?_⟩
          obtain ⟨c1, c2, c3⟩ := (HP.out c).1 hc
          by_cases e : c = b
          · rw [e]; exact PD.self HG.out Ha.out.1 h3 h2
          · exact h4 c c1 c2 e c3
        · rintro ⟨h1, h2⟩
          obtain ⟨b1, b2, b3⟩ := (HP.out b).1 h1
          exact ⟨b1, b2, b3, fun c c1 c2 _ c4 => h2 c ((HP.out c).2 ⟨c1, c2, c4⟩)⟩
      have HGd := Lib.hid hgood
      clear hgood
      have hread := Hown.out
      go_wp2_with fail
      go_loopg [36] ps.length (fun gk i wr => ∃ k : Nat, gk + k = ps.length ∧ i = .int .i64 k ∧ Pure w wr ∧ OwnO wr w.heap.size 3 1 (.slice Aq ps.length cq) ps.length (ps.map (.int .i64)) ∧ ∀ j, j < k → ¬ GoodP xss a en (ps.getD j 0))
      case atStart => exact ⟨0, rfl, rfl, hp, Hown.out, fun j hj => absurd hj (by omega)⟩
      case round =>
        clear hp hread Hown
        obtain ⟨i, hgi, rfl, hp, hown, hall⟩ := hrel
        have Hgi := Lib.hid hgi
        have Hown := Lib.hid hown
        have Hall := Lib.hid hall
        clear hgi hown hall
        by_cases hlti : i < ps.length
        · obtain ⟨g, off, c2, hq, hq1, hq2, hq3, hq4⟩ := Hown.out.formSome (by omega)
          injection hq with hq5 hq6 hq7
          subst hq5 hq7
          have hcell := Hown.out.cell i (by omega)
          rw [show (ps.map (Value.int .i64))[i]? = some (.int .i64 (ps.getD i 0)) by simp [List.getD_eq_getElem?_getD, hlti]] at hcell
          have hbm := mem_of_getD hlti
          obtain ⟨b, Hb⟩ : ∃ b, Hid (ps.getD i 0 = b) := ⟨_, rfl⟩
          rw [Hb.out] at hcell hbm
          have Hbm := Lib.hid hbm; clear hbm
          have Hbi := Lib.hid ((HP.out b).1 Hbm.out)
          go_wp2_with fail
          go_loopg [42, 11] ps.length (fun gj j nr wr => ∃ (j' : Nat) (n' : Bool), gj + j' = ps.length ∧ j = .int .i64 j' ∧ nr = .bool n' ∧ Pure w wr ∧ OwnO wr w.heap.size 3 1 (.slice (some ⟨g, off, none⟩) ps.length cq) ps.length (ps.map (.int .i64)) ∧ (n' = true ↔ ∀ l, l < j' → PD xss b (ps.getD l 0) en))
          case atStart => exact ⟨0, true, rfl, rfl, rfl, hp, Hown.out, by simp⟩
          case round =>
            clear hp Hown hcell
            obtain ⟨j, n, hgj, rfl, rfl, hp, hown, hn⟩ := hrel
            have Hgj := Lib.hid hgj
            have Hown := Lib.hid hown
            have Hn := Lib.hid hn
            clear hgj hown hn
            by_cases hltj : j < ps.length
            · have hcell := Hown.out.cell j (by omega)
              rw [show (ps.map (Value.int .i64))[j]? = some (.int .i64 (ps.getD j 0)) by simp [List.getD_eq_getElem?_getD, hltj]] at hcell
              have hbm := mem_of_getD hltj
              obtain ⟨o, Ho⟩ : ∃ o, Hid (ps.getD j 0 = o) := ⟨_, rfl⟩
              rw [Ho.out] at hcell hbm
              cases n
              · go_wp2
                go_roundg (ps.length - (j + 1))
                case measure => have := Hgj.out; omega
                case rel =>
                  refine ⟨j + 1, false, by have := Hgj.out; omega, by go_num, rfl, hp, Hown.out, ?_⟩
                  have := Hn.out
                  simp only [Bool.false_eq_true, false_iff] at this ⊢
                  exact fun h => this fun l hl => h l (by omega)
              · rcases Classical.em (PD xss b o en) with h1 | h1
                all_goals
                  have H1 := Lib.hid h1; clear h1
                · go_wp2_with (go_at_call 61; go_must (refine (ipd_any _ _ _ _ _ _ (H.out.keep hp) HG.out Hbi.out.1 He.out true (by simp [H1.out])).mono ?_); rintro e w1 ⟨rfl, hp1⟩)
                  have hp2 := hp.trans hp1
                  go_roundg (ps.length - (j + 1))
                  case measure => have := Hgj.out; omega
                  case rel =>
                    refine ⟨j + 1, true, by have := Hgj.out; omega, by go_num, rfl, hp2, Hown.out.pure hp1, ?_⟩
                    have := Hn.out
                    simp only [true_iff] at this ⊢
                    intro l hl
                    by_cases e : l = j
                    · rw [e, Ho.out]; exact H1.out
                    · exact this l (by omega)
                · go_wp2_with (go_at_call 61; go_must (refine (ipd_any _ _ _ _ _ _ (H.out.keep hp) HG.out Hbi.out.1 He.out false (by simp [H1.out])).mono ?_); rintro e w1 ⟨rfl, hp1⟩)
                  have hp2 := hp.trans hp1
                  go_roundg (ps.length - (j + 1))
                  case measure => have := Hgj.out; omega
                  case rel =>
                    refine ⟨j + 1, false, by have := Hgj.out; omega, by go_num, rfl, hp2, Hown.out.pure hp1, ?_⟩
                    simp only [Bool.false_eq_true, false_iff]
                    intro h
                    have := h j (by omega)
                    rw [Ho.out] at this
                    exact H1.out this
            · cases n
              · go_wp2
                go_roundg (ps.length - (i + 1))
                case measure => have := Hgi.out; omega
                case rel =>
                  refine ⟨i + 1, by have := Hgi.out; omega, by go_num, hp, Hown.out, fun l hl => ?_⟩
                  by_cases e : l = i
                  · rw [e, Hb.out, HGd.out]
                    rintro ⟨_, h⟩
                    have := Hn.out
                    simp only [Bool.false_eq_true, false_iff] at this
                    exact this fun l hl => h _ (mem_of_getD (by have := Hgj.out; omega))
                  · exact Hall.out l (by omega)
              · go_wp2
                go_ret
                refine ⟨b, rfl, .inr ⟨(HGd.out b).2 ⟨Hbm.out, fun c hc => ?_⟩, fun c hc hg => ?_⟩, hp⟩
                · obtain ⟨l, hl, e⟩ := mem_getD.1 hc
                  have := Hn.out
                  simp only [true_iff] at this
                  rw [← e]; exact this l (by omega)
                · obtain ⟨l, hl, e⟩ := mem_getD.1 ((HGd.out c).1 hg).1
                  by_cases hli : l < i
                  · exact Hall.out l hli (by rw [e]; exact hg)
                  · have hle : ps.getD i 0 ≤ ps.getD l 0 := by
                      by_cases e : i = l
                      · rw [e]; omega
                      · have := List.pairwise_iff_getElem.1 Hsrt.out i l hlti hl (by omega)
                        simp only [List.getD_eq_getElem?_getD, List.getElem?_eq_getElem hlti, List.getElem?_eq_getElem hl, Option.getD_some]
                        omega
                    rw [Hb.out, e] at hle
                    omega
        · go_wp2
          go_ret
          refine ⟨_, rfl, .inl ⟨rfl, fun b hg => ?_⟩, hp⟩
          obtain ⟨l, hl, e⟩ := mem_getD.1 ((HGd.out b).1 hg).1
          exact Hall.out l (by omega) (by rw [e]; exact hg)

end Go.Proofs.Ytmhaaihgepldhaa
