/- Reachability, as the reference and the program reckon it. No condition. -/
import Derived.Test.YtmhaaihgepldhaaGraph
import Derived.Test.YtmhaaihgepldhaaOwnO
import Derived.Test.YtmhaaihgepldhaaBfs
import Derived.Deep.LoopGhost
namespace Go.Proofs.Ytmhaaihgepldhaa
open Go.RowKit

def Bools (w : World) (v : Value) (bs : List Bool) : Prop := Cells w v bs.length 1 (fun j => .bool (bs.getD j false))
theorem Bools.keep {w w' : World} {v : Value} {xs : List Bool} (h : Bools w v xs) (hp : Pure w w') : Bools w' v xs := Cells.keep h hp

def ReachPost (xss : List (List Int)) (wo fr : Int) (w : World) (e : Ending) (w' : World) : Prop :=
  ∃ v bs, e = .returned v ∧ Bools w' v bs ∧ bs.length = xss.length ∧ (∀ i : Nat, i < xss.length → (bs.getD i false = true ↔ RC xss wo fr i)) ∧ Pure w w'

/-- The marks: which nodes have been seen. -/
def Seen (w : World) (B g n : Nat) (L : List Int) : Prop :=
  ∃ ys, OwnO w B 4 1 (.slice (some ⟨g, 0, none⟩) n n) n ys ∧ ∀ i : Nat, i < n → ys[i]? = some (.bool (decide ((i : Int) ∈ L)))

theorem Seen.cell {w : World} {B g n : Nat} {L : List Int} (h : Seen w B g n L) {i : Nat} (hi : i < n) : w.cell? ⟨g, i, none⟩ = some (.bool (decide ((i : Int) ∈ L))) := by
  obtain ⟨ys, h1, h2⟩ := h
  have := h1.cell i (by omega)
  rw [Nat.zero_add] at this
  rw [this]; exact h2 i hi
theorem Seen.frozen {w : World} {B g n : Nat} {L : List Int} (h : Seen w B g n L) (i : Nat) : w.frozen? ⟨g, i, none⟩ = false := by
  obtain ⟨ys, h1, h2⟩ := h
  exact h1.frozen i
theorem Seen.kept {w w' : World} {B g n : Nat} {L : List Int} {row : Option Nat} (h : Seen w B g n L) (hg : w.grownBy w' row) (hne : some g ≠ row) : Seen w' B g n L := by
  obtain ⟨ys, h1, h2⟩ := h
  exact ⟨ys, h1.kept hg (fun k hk => by simp [Value.ownBlock] at hk; subst hk; exact hne), h2⟩
theorem Seen.pure {w w' : World} {B g n : Nat} {L : List Int} (h : Seen w B g n L) (hp : Pure w w') : Seen w' B g n L := h.kept (hp.grownBy none) (by simp)
theorem Seen.mark {w : World} {B g n : Nat} {L : List Int} (h : Seen w B g n L) {i : Nat} (hi : i < n) : Seen (w.setCell ⟨g, i, none⟩ (.bool true)) B g n (L ++ [(i : Int)]) := by
  obtain ⟨ys, h1, h2⟩ := h
  have h3 := h1.stored i (.bool true)
  rw [Nat.zero_add] at h3
  refine ⟨_, h3, fun j hj => ?_⟩
  rw [List.getElem?_set]
  have hl : ys.length = n := by have := h1.1; omega
  by_cases e : i = j
  · subst e; rw [if_pos rfl, if_pos (by omega)]; simp
  · rw [if_neg e, h2 j hj]
    have : (j : Int) ≠ i := by omega
    simp [this]
theorem Seen.ne {w : World} {B g n B' e s n' : Nat} {L : List Int} {v : Value} {xs : List Value} (h : Seen w B g n L) (h' : OwnO w B' e s v n' xs) (hne : 4 ≠ e) : some g ≠ v.ownBlock := by
  obtain ⟨ys, h1, h2⟩ := h
  exact h1.ne h' hne g rfl
theorem Seen.start {w : World} {B g n : Nat} (h : w.ownsRow B 4 1 (.slice (some ⟨g, 0, none⟩) n n) n (zeros [.bool false] n)) : Seen w B g n [] := by
  refine ⟨_, OwnO.of_own h, fun i hi => ?_⟩
  rw [zeros_get _ _ _ (by simpa using hi)]
  simp [Nat.mod_one]
theorem Seen.bools {w : World} {B g n : Nat} {L : List Int} (h : Seen w B g n L) : Bools w (.slice (some ⟨g, 0, none⟩) n n) ((List.range n).map fun (i : Nat) => decide ((i : Int) ∈ L)) := by
  obtain ⟨ys, h1, h2⟩ := h
  unfold Bools
  rw [List.length_map, List.length_range]
  refine Cells.of_ownO h1 fun j hj => ?_
  rw [h2 j (by omega)]
  simp [List.getD_eq_getElem?_getD, show j < n by omega]
theorem seen_post {xss : List (List Int)} {wo fr : Int} {w wr : World} {B g : Nat} {L : List Int} (h : Seen wr B g xss.length L) (hL : ∀ x, x ∈ L ↔ RC xss wo fr x) (hp : Pure w wr) : ReachPost xss wo fr w (.returned (.slice (some ⟨g, 0, none⟩) xss.length xss.length)) wr :=
  ⟨_, _, rfl, h.bools, by simp, fun i hi => by simp [List.getD_eq_getElem?_getD, hi]; exact hL i, hp⟩

set_option maxHeartbeats 1000000 in
set_option maxRecDepth 100000 in
theorem reach_any (v : Value) (xss : List (List Int)) (fr wo : Int) (w : World) (h : IntRows w v xss) (hG : GValid xss) (hf : 0 ≤ fr ∧ fr ≤ (xss.length : Int) - 1) :
    Calls Try.prog 66 #[v, .int .i64 fr, .int .i64 wo] w (ReachPost xss wo fr w) := by
  obtain ⟨A, c, rfl, hnc, hcm, hread⟩ := h
  obtain ⟨f, rfl⟩ : ∃ f : Nat, fr = f := ⟨fr.toNat, by omega⟩
  have hn64 := hG.2
  obtain ⟨hf1, hf2⟩ := hf
  have hfn : f < xss.length := by omega
  by_cases hne : (f : Int) = wo
  · have hd : ((f : Int) == wo) = true := by simp [hne]
    have Hne := Lib.hid hne; clear hne hread
    have HG := Lib.hid hG; clear hG
    go_enter Try.func66, Try.ntmps66
    go_wp2_with (at_make; refine wl_make elBool rfl _ _ rfl w.heap.size _ _ _ _ xss.length rfl rfl rfl rfl (by omega) (by omega) (Nat.le_refl _) ?_; intro w1 hown hp hsz)
    go_ret
    exact seen_post (Seen.start hown) (fun x => by
      constructor
      · intro h; simp at h
      · intro h; exact absurd Hne.out h.ne_left) hp
  · have hd : ((f : Int) == wo) = false := by simp [hne]
    have Hne := Lib.hid hne; clear hne
    have HG := Lib.hid hG; clear hG
    go_enter Try.func66, Try.ntmps66
    go_wp2_with (at_make; refine wl_make elBool rfl _ _ rfl w.heap.size _ _ _ _ xss.length rfl rfl rfl rfl (by omega) (by omega) (Nat.le_refl _) ?_; intro w1 hown hp hsz; have hs0 := Seen.start hown; have hc0 := hs0.cell hfn; have hf0 := hs0.frozen f; have Hs0 := Lib.hid hs0; clear hs0 hown)
    have hM := Hs0.out.mark hfn
    have hp1 : Pure w (w1.setCell ⟨w.heap.size, f, none⟩ (.bool true)) := hp.setCell (Nat.le_refl _) _
    have hM2 := hM.pure (Pure.alloc (Pure.refl _) (.cells #[Value.int .i64 (f : Int)] 3))
    have hq : OwnO ((w1.setCell ⟨w.heap.size, f, none⟩ (.bool true)).alloc (.cells #[Value.int .i64 (f : Int)] 3)) w.heap.size 3 1 (.slice (some ⟨w1.heap.size, 0, none⟩) 1 1) 1 [Value.int .i64 (f : Int)] := by
      have := OwnO.lit (B := w.heap.size) (e := 3) (s := 1) (w1.setCell ⟨w.heap.size, f, none⟩ (.bool true)) #[Value.int .i64 (f : Int)] 1 hp1.size (by omega) (by simp)
      simpa [World.setCell] using this
    have hp2 := hp1.alloc (.cells #[Value.int .i64 (f : Int)] 3)
    have hB0 := Bfs.start (xss := xss) (wo := wo) (fr := (f : Int)) (by omega) (by omega) Hne.out
    go_loopg [8] xss.length (fun gk q wr => ∃ (L : List Int) (k n : Nat), gk + k = xss.length ∧ Bfs xss wo f L k ∧ n + k = L.length ∧ Seen wr w.heap.size w.heap.size xss.length L ∧ OwnO wr w.heap.size 3 1 q n ((L.drop k).map (.int .i64)) ∧ Pure w wr)
    case atStart => exact ⟨[(f : Int)], 0, 1, rfl, hB0, rfl, hM2, hq, hp2⟩
    case round =>
      clear hM hp1 hM2 hq hp2 hB0 hp hsz Hs0 hc0 hf0
      obtain ⟨L, k, n, hgk, hbfs, hnk, hseen, hown, hp⟩ := hrel
      by_cases hlt : 0 < n
      · obtain ⟨g, off, cq, rfl, hnq, hcq, hgB, hgz⟩ := hown.formSome hlt
        have hkL : k < L.length := by omega
        have hcell := hown.cell 0 (by omega)
        have hx0 : ((L.drop k).map (Value.int .i64))[0]? = some (.int .i64 (L.getD k 0)) := by simp [List.getD_eq_getElem?_getD, hkL]
        rw [hx0] at hcell
        have hm := hbfs.rng (L.getD k 0) (by simp [List.getD_eq_getElem?_getD, hkL])
        obtain ⟨m, hm'⟩ : ∃ m : Nat, L.getD k 0 = m := ⟨(L.getD k 0).toNat, by omega⟩
        rw [hm'] at hcell hm
        have Hm' := Lib.hid hm'; clear hm' hx0
        obtain ⟨hm0, hm1⟩ := hm
        have hmx : m < xss.length := by omega
        obtain ⟨b, o, rfl, hb, hc⟩ := hread (by omega)
        obtain ⟨r, hr, hrow⟩ := hc m hmx
        have hr' := (hp.cell b (o + m) hb).trans hr
        clear hread hc hr
        obtain ⟨xs, Hxs⟩ : ∃ xs, Hid (xss.getD m [] = xs) := ⟨_, rfl⟩
        rw [Hxs.out] at hrow
        obtain ⟨A', c', rfl, hnc', hcm', hread'⟩ := hrow
        have Hbfs := Lib.hid hbfs; clear hbfs
        have Hseen := Lib.hid hseen; clear hseen
        have Hown := Lib.hid hown; clear hown
        simp only [Nat.add_zero] at hcell
        go_wp2
        go_loopg [35, 8] xs.length (fun gj i q wr => ∃ (j n' : Nat) (L' : List Int), gj + j = xs.length ∧ i = .int .i64 j ∧ Bfs xss wo f L' k ∧ L'.getD k 0 = m ∧ n' + k = L'.length ∧ 0 < n' ∧ Seen wr w.heap.size w.heap.size xss.length L' ∧ OwnO wr w.heap.size 3 1 q n' ((L'.drop k).map (.int .i64)) ∧ Pure w wr ∧ ∀ i, i < j → xs.getD i 0 ≠ wo → xs.getD i 0 ∈ L')
        case atStart => exact ⟨0, n, L, rfl, rfl, Hbfs.out, Hm'.out, hnk, hlt, Hseen.out, Hown.out, hp, fun i hi => absurd hi (by omega)⟩
        case round =>
          have Hgk := Lib.hid hgk
          clear hcell hr' hp hgk hnk hgB hgz hnq Hbfs Hseen Hown Hm' hkL hlt
          obtain ⟨j, n', L', hgj, rfl, hbfs, hm', hnk, hlt, hseen, hown, hp, hall⟩ := hrel
          have Hbfs := Lib.hid hbfs
          have Hm' := Lib.hid hm'
          have Hseen := Lib.hid hseen
          have Hown := Lib.hid hown
          have Hall := Lib.hid hall
          clear hbfs hm' hseen hown hall
          have hlen := Hbfs.out.len
          obtain ⟨g, off, cq, rfl, hnq, hcq, hgB, hgz⟩ := Hown.out.formSome hlt
          by_cases hlj : j < xs.length
          · obtain ⟨b', o', rfl, hb', hc'⟩ := hread' (by omega)
            have hx := (hp.cell b' (o' + j) hb').trans (hc' j (by omega))
            have hmem : xs.getD j 0 ∈ xss.getD m [] := by rw [Hxs.out]; simp [List.getD_eq_getElem?_getD, hlj]
            have hrg := HG.out.mem hmem
            obtain ⟨y, hy⟩ : ∃ y : Nat, xs.getD j 0 = y := ⟨(xs.getD j 0).toNat, by omega⟩
            rw [hy] at hx hmem hrg
            have Hy := Lib.hid hy
            have Hmem := Lib.hid hmem
            clear hread' hc' hy hmem
            obtain ⟨hr1, hr2⟩ := hrg
            have hyn : y < xss.length := by omega
            have hcell := Hseen.out.cell hyn
            have hfz := Hseen.out.frozen y
            by_cases hin : (y : Int) ∈ L'
            · rw [decide_eq_true hin] at hcell
              have Hin := Lib.hid hin; clear hin
              go_wp2
              go_roundg (xs.length - (j + 1))
              case measure => omega
              case rel =>
                refine ⟨j + 1, n', L', by omega, by go_num, Hbfs.out, Hm'.out, hnk, hlt, Hseen.out, Hown.out, hp, fun i hi hw => ?_⟩
                by_cases e : i = j
                · subst e; rw [Hy.out]; exact Hin.out
                · exact Hall.out i (by omega) hw
            · rw [decide_eq_false hin] at hcell
              have Hin := Lib.hid hin; clear hin
              by_cases hyw : (y : Int) = wo
              · have hd : ((y : Int) != wo) = false := by simp [hyw]
                have Hyw := Lib.hid hyw; clear hyw
                go_wp2
                go_roundg (xs.length - (j + 1))
                case measure => omega
                case rel =>
                  refine ⟨j + 1, n', L', by omega, by go_num, Hbfs.out, Hm'.out, hnk, hlt, Hseen.out, Hown.out, hp, fun i hi hw => ?_⟩
                  by_cases e : i = j
                  · subst e; rw [Hy.out] at hw; exact absurd Hyw.out hw
                  · exact Hall.out i (by omega) hw
              · have hd : ((y : Int) != wo) = true := by simp [hyw]
                have Hyw := Lib.hid hyw; clear hyw
                have hM := Hseen.out.mark hyn
                have hO := Hown.out.kept (grown_setCell wr ⟨w.heap.size, y, none⟩ (.bool true)) (fun k hk e => Hseen.out.ne Hown.out (by decide) (by rw [hk, e]))
                have hP := Pure.setCell (p := ⟨w.heap.size, y, none⟩) hp (Nat.le_refl _) (.bool true)
                have hMO := Hseen.out.ne Hown.out (by decide)
                have HMO := Lib.hid hMO
                have HM := Lib.hid hM
                have HO := Lib.hid hO
                have HP := Lib.hid hP
                clear hM hO hP hMO
                go_wp2_with (at_builtin; refine wl_append1 elInt rfl _ _ rfl w.heap.size _ _ _ rfl HO.out wr.heap.size 1 [.int .i64 (y : Int)] rfl (by simp [World.setCell]) rfl rfl (by decide) (by omega) HP.out.size ?_; intro v' w' hO' hg')
                have hM' := HM.out.kept hg' HMO.out
                have hP' := HP.out.grown hg' (fun k hk => by have := (Hown.out.lt k hk).1; exact this)
                go_wp2
                go_roundg (xs.length - (j + 1))
                case measure => omega
                case rel =>
                  have hrange := Hbfs.out.push (by omega) (c := (y : Int)) (by rw [Hm'.out, Int.toNat_natCast]; exact Hmem.out) ⟨by omega, by omega⟩ Hyw.out Hin.out
                  refine ⟨j + 1, n' + 1, L' ++ [(y : Int)], by omega, by go_num, hrange, ?_, by simp; omega, by omega, hM', ?_, hP', fun i hi hw => ?_⟩
                  · rw [getD_append_left' (by omega)]; exact Hm'.out
                  · rw [List.drop_append_of_le_length (by omega), List.map_append]; exact hO'
                  · by_cases e : i = j
                    · subst e; rw [Hy.out]; simp
                    · exact List.mem_append_left _ (Hall.out i (by omega) hw)
          · have hjl : j = xs.length := by omega
            subst hjl
            have hd1 := Hown.out.drop (k := 1) (by omega)
            have hnx := Hbfs.out.next (by omega) (fun c hc hw => by
              rw [Hm'.out, Int.toNat_natCast, Hxs.out] at hc
              obtain ⟨i, hi, e⟩ := mem_getD.1 hc
              rw [← e]; exact Hall.out i (by omega) (by rw [e]; exact hw))
            have Hnx := Lib.hid hnx
            clear hnx
            have hdd : List.drop (1 * 1) (List.map (Value.int .i64) (List.drop k L')) = List.map (Value.int .i64) (List.drop (k + 1) L') := by
              rw [← List.map_drop, List.drop_drop]
            by_cases hc1 : cq = 1
            · subst hc1
              obtain rfl : n' = 1 := by omega
              rw [if_pos rfl, hdd] at hd1
              have Hd1 := Lib.hid hd1
              clear hd1 hdd
              go_wp2
              go_roundg (xss.length - (k + 1))
              case measure => have := Hgk.out; omega
              case rel => exact ⟨L', k + 1, 0, by have := Hgk.out; omega, Hnx.out, by omega, Hseen.out, Hd1.out, hp⟩
            · rw [if_neg hc1, hdd] at hd1
              have Hd1 := Lib.hid hd1
              clear hd1 hdd
              go_wp2
              go_roundg (xss.length - (k + 1))
              case measure => have := Hgk.out; omega
              case rel => exact ⟨L', k + 1, n' - 1, by have := Hgk.out; omega, Hnx.out, by omega, Hseen.out, Hd1.out, hp⟩
      · have hkL : k = L.length := by omega
        subst hkL
        have Hbfs := Lib.hid hbfs; clear hbfs
        have Hseen := Lib.hid hseen; clear hseen
        have hn0 : n = 0 := by omega
        subst hn0
        obtain ⟨Aq, cq, rfl⟩ := hown.form
        have Hown := Lib.hid hown; clear hown
        go_wp2
        go_ret
        exact seen_post Hseen.out Hbfs.out.done hp

end Go.Proofs.Ytmhaaihgepldhaa
