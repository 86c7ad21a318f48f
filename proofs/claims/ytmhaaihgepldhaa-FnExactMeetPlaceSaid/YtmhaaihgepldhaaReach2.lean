/- The reference's GraphReach. No condition. -/
import Derived.Test.YtmhaaihgepldhaaReach
namespace Go.Proofs.Ytmhaaihgepldhaa
open Go.RowKit

set_option maxHeartbeats 2000000 in
set_option maxRecDepth 100000 in
theorem greach_any (v : Value) (xss : List (List Int)) (fr wo : Int) (w : World) (h : IntRows w v xss) (hG : GValid xss) (hf : 0 ≤ fr ∧ fr ≤ (xss.length : Int) - 1) (hwo : -1 ≤ wo ∧ wo ≤ (xss.length : Int) - 1) :
    Calls Try.prog 62 #[v, .int .i64 fr, .int .i64 wo] w (ReachPost xss wo fr w) := by
  have Hrows := Lib.hid h
  obtain ⟨A, c, rfl, hnc, hcm, hread⟩ := h
  obtain ⟨f, rfl⟩ : ∃ f : Nat, fr = f := ⟨fr.toNat, by omega⟩
  have hn64 := hG.2
  have HG := Lib.hid hG; clear hG
  go_enter Try.func62, Try.ntmps62
  go_wp2_with fail
  refine (gv_any _ _ _ Hrows.out true (by simp [HG.out])).mono ?_
  rintro e w' ⟨rfl, n0, rfl⟩
  go_wp2_with fail
  refine (l1In_t _ _ _ _ hf).mono ?_
  rintro e w' ⟨rfl, rfl⟩
  go_wp2_with fail
  refine (l1In_t _ _ _ _ hwo).mono ?_
  rintro e w' ⟨rfl, rfl⟩
  obtain ⟨hf1, hf2⟩ := hf
  have hfn : f < xss.length := by omega
  have hpd : Pure w (w.drewN n0) := Pure.drewN (Pure.refl _) _
  by_cases hne : (f : Int) = wo
  · have hd : ((f : Int) != wo) = false := by simp [hne]
    have Hne := Lib.hid hne; clear hne
    go_wp2_with (at_make; refine wl_make elBool rfl _ _ rfl w.heap.size _ _ _ _ xss.length rfl rfl rfl rfl (by omega) (by omega) hpd.size ?_; intro w1 hown hp hsz; have hp1 := hpd.trans hp; have hs0 : Hid (Seen w1 w.heap.size w.heap.size xss.length []) := Lib.hid (Seen.start hown); clear hown)
    have hpa := hp1.alloc (.cells #[] 3)
    have hse := hs0.out.pure (Pure.alloc (Pure.refl _) (.cells #[] 3))
    have Hse := Lib.hid hse; clear hse
    go_loopg [9, 8] 0 (fun gk i q wr => i = .int .i64 0 ∧ q = .slice (some ⟨w1.heap.size, 0, none⟩) 0 0 ∧ wr = w1.alloc (.cells #[] 3))
    case atStart => exact ⟨rfl, rfl, rfl⟩
    case round =>
      obtain ⟨rfl, rfl, rfl⟩ := hrel
      go_wp2
      go_ret
      exact seen_post Hse.out (fun x => by
        constructor
        · intro h; simp at h
        · intro h; exact absurd Hne.out h.ne_left) hpa
  · have hd : ((f : Int) != wo) = true := by simp [hne]
    have Hne := Lib.hid hne; clear hne
    go_wp2_with (at_make; go_must (refine wl_make elBool rfl _ _ rfl w.heap.size _ _ _ _ xss.length rfl rfl rfl rfl (by omega) (by omega) hpd.size ?_); intro w1 hown hp hsz; have hp1 := Lib.hid (hpd.trans hp); have hs0 : Hid (Seen w1 w.heap.size w.heap.size xss.length []) := Lib.hid (Seen.start hown); clear hown hp; go_wp2_with (at_builtin; go_must (refine wl_append1 elInt rfl _ _ rfl w.heap.size (.slice (some ⟨w1.heap.size, 0, none⟩) 0 0) 0 [] rfl (OwnO.empty_lit (w := w1) hp1.out.size) (w1.heap.size + 1) 1 [.int .i64 (f : Int)] rfl (by simp) rfl rfl (by decide) (by omega) (hp1.out.alloc _).size ?_); intro v2 w2 hO hg; go_must (have hp2 := Lib.hid ((hp1.out.alloc (.cells #[] 3)).grown hg (fun k hk => by simp [Value.ownBlock] at hk; subst hk; exact hp1.out.size)); have hs2 := Lib.hid ((hs0.out.pure (Pure.alloc (Pure.refl _) (.cells #[] 3))).kept hg (fun e => by simp [Value.ownBlock] at e; have : w.heap.size < w1.heap.size := hsz; omega)); have hc2 := hs2.out.cell hfn; have hf2 := hs2.out.frozen f; have HO := Lib.hid hO; clear hO hg)))
    have Hm := Lib.hid (hs2.out.mark hfn)
    have hp3 := Lib.hid (hp2.out.setCell (p := ⟨w.heap.size, f, none⟩) (Nat.le_refl _) (.bool true))
    have HO3 := Lib.hid (HO.out.kept (grown_setCell w2 ⟨w.heap.size, f, none⟩ (.bool true)) (fun k hk e => hs2.out.ne HO.out (by decide) (by rw [hk, e]; try rfl)))
    have hB0 := Lib.hid (Bfs.start (xss := xss) (wo := wo) (fr := (f : Int)) (by omega) (by omega) Hne.out)
    clear hc2 hf2
    go_loopg [9, 8] xss.length (fun gk i q wr => ∃ (L : List Int) (k : Nat), gk + k = xss.length ∧ i = .int .i64 k ∧ Bfs xss wo f L k ∧ Seen wr w.heap.size w.heap.size xss.length L ∧ OwnO wr w.heap.size 3 1 q L.length (L.map (.int .i64)) ∧ Pure w wr)
    case atStart => exact ⟨[(f : Int)], 0, rfl, rfl, hB0.out, Hm.out, HO3.out, hp3.out⟩
    case round =>
      clear Hm hp3 HO3 hB0 hp2 hs2 HO hp1 hs0 hsz hpd
      obtain ⟨L, k, hgk, rfl, hbfs, hseen, hown, hp⟩ := hrel
      have hlenL := hbfs.len
      by_cases hlt : k < L.length
      · obtain ⟨g, off, cq, rfl, hnq, hcq, hgB, hgz⟩ := hown.formSome (by omega)
        have hcell := hown.cell k (by omega)
        have hx0 : (L.map (Value.int .i64))[k]? = some (.int .i64 (L.getD k 0)) := by simp [List.getD_eq_getElem?_getD, hlt]
        rw [hx0] at hcell
        have hm := hbfs.rng (L.getD k 0) (by simp [List.getD_eq_getElem?_getD, hlt])
        obtain ⟨m, hm'⟩ : ∃ m : Nat, L.getD k 0 = m := ⟨(L.getD k 0).toNat, by omega⟩
        rw [hm'] at hcell hm
        have Hm' := Lib.hid hm'; clear hm' hx0
        obtain ⟨hm0, hm1⟩ := hm
        have hmx : m < xss.length := by omega
        obtain ⟨b, o, rfl, hb, hc⟩ := hread (by omega)
        obtain ⟨r, hr, hrow⟩ := hc m hmx
        have hr' := (hp.cell b (o + m) hb).trans hr
        clear hread hc hr
        obtain ⟨xs, Hxs⟩ : ∃ xs, Hid (xss.getD m [] = xs) := ⟨_, rfl⟩
        rw [Hxs.out] at hrow
        obtain ⟨A', c', rfl, hnc', hcm', hread'⟩ := hrow
        have Hbfs := Lib.hid hbfs; clear hbfs
        have Hseen := Lib.hid hseen; clear hseen
        have Hown := Lib.hid hown; clear hown
        have Hgk := Lib.hid hgk; clear hgk
        go_wp2
        go_loopg [11, 8] xs.length (fun gj i q wr => ∃ (j : Nat) (L' : List Int), gj + j = xs.length ∧ i = .int .i64 j ∧ Bfs xss wo f L' k ∧ L'.getD k 0 = m ∧ k < L'.length ∧ Seen wr w.heap.size w.heap.size xss.length L' ∧ OwnO wr w.heap.size 3 1 q L'.length (L'.map (.int .i64)) ∧ Pure w wr ∧ ∀ i, i < j → xs.getD i 0 ≠ wo → xs.getD i 0 ∈ L')
        case atStart => exact ⟨0, L, rfl, rfl, Hbfs.out, Hm'.out, hlt, Hseen.out, Hown.out, hp, fun i hi => absurd hi (by omega)⟩
        case round =>
          clear hcell hr' hp hgB hgz hnq Hbfs Hseen Hown Hm' hlt hlenL
          obtain ⟨j, L', hgj, rfl, hbfs, hm', hlt, hseen, hown, hp, hall⟩ := hrel
          have Hbfs := Lib.hid hbfs
          have Hm' := Lib.hid hm'
          have Hseen := Lib.hid hseen
          have Hown := Lib.hid hown
          have Hall := Lib.hid hall
          have Hgj := Lib.hid hgj
          clear hbfs hm' hseen hown hall hgj
          have hlen := Hbfs.out.len
          obtain ⟨g, off, cq, rfl, hnq, hcq, hgB, hgz⟩ := Hown.out.formSome (by omega)
          by_cases hlj : j < xs.length
          · obtain ⟨b', o', rfl, hb', hc'⟩ := hread' (by omega)
            have hx := (hp.cell b' (o' + j) hb').trans (hc' j (by omega))
            have hmem : xs.getD j 0 ∈ xss.getD m [] := by rw [Hxs.out]; simp [List.getD_eq_getElem?_getD, hlj]
            have hrg := HG.out.mem hmem
            obtain ⟨y, hy⟩ : ∃ y : Nat, xs.getD j 0 = y := ⟨(xs.getD j 0).toNat, by omega⟩
            rw [hy] at hx hmem hrg
            have Hy := Lib.hid hy
            have Hmem := Lib.hid hmem
            clear hread' hc' hy hmem
            obtain ⟨hr1, hr2⟩ := hrg
            have hyn : y < xss.length := by omega
            have hcell := Hseen.out.cell hyn
            have hfz := Hseen.out.frozen y
            by_cases hyw : (y : Int) = wo
            · have hd : ((y : Int) != wo) = false := by simp [hyw]
              have Hyw := Lib.hid hyw; clear hyw hcell
              go_wp2
              go_roundg (xs.length - (j + 1))
              case measure => have := Hgj.out; omega
              case rel =>
                refine ⟨j + 1, L', by have := Hgj.out; omega, by go_num, Hbfs.out, Hm'.out, hlt, Hseen.out, Hown.out, hp, fun i hi hw => ?_⟩
                by_cases e : i = j
                · subst e; rw [Hy.out] at hw; exact absurd Hyw.out hw
                · exact Hall.out i (by omega) hw
            · have hd : ((y : Int) != wo) = true := by simp [hyw]
              have Hyw := Lib.hid hyw; clear hyw
              by_cases hin : (y : Int) ∈ L'
              · rw [decide_eq_true hin] at hcell
                have Hin := Lib.hid hin; clear hin
                go_wp2
                go_roundg (xs.length - (j + 1))
                case measure => have := Hgj.out; omega
                case rel =>
                  refine ⟨j + 1, L', by have := Hgj.out; omega, by go_num, Hbfs.out, Hm'.out, hlt, Hseen.out, Hown.out, hp, fun i hi hw => ?_⟩
                  by_cases e : i = j
                  · subst e; rw [Hy.out]; exact Hin.out
                  · exact Hall.out i (by omega) hw
              · rw [decide_eq_false hin] at hcell
                have Hin := Lib.hid hin; clear hin
                have hM := Hseen.out.mark hyn
                have hO := Hown.out.kept (grown_setCell wr ⟨w.heap.size, y, none⟩ (.bool true)) (fun k hk e => Hseen.out.ne Hown.out (by decide) (by rw [hk, e]; try rfl))
                have hP := Pure.setCell (p := ⟨w.heap.size, y, none⟩) hp (Nat.le_refl _) (.bool true)
                have hMO := Hseen.out.ne Hown.out (by decide)
                have HMO := Lib.hid hMO
                have HM := Lib.hid hM
                have HO := Lib.hid hO
                have HP := Lib.hid hP
                have hx2 : (wr.setCell ⟨w.heap.size, y, none⟩ (.bool true)).cell? ⟨b', o' + j, none⟩ = some (.int .i64 y) := by
                  rw [World.cell?_setCell_other _ _ _ _ (by intro e; injection e with e1; omega)]; exact hx
                clear hM hO hP hMO
                go_wp2_with (at_builtin; go_must (refine wl_append1 elInt rfl _ _ rfl w.heap.size (.slice (some ⟨g, off, none⟩) L'.length cq) L'.length (L'.map (.int .i64)) rfl HO.out wr.heap.size 1 [.int .i64 (y : Int)] rfl (by simp [World.setCell]) rfl rfl (by decide) (by omega) HP.out.size ?_); intro v' w' hO' hg')
                have hM' := HM.out.kept hg' HMO.out
                have hP' := HP.out.grown hg' (fun k hk => by have := (Hown.out.lt k hk).1; exact this)
                go_wp2
                go_roundg (xs.length - (j + 1))
                case measure => have := Hgj.out; omega
                case rel =>
                  have hrange := Hbfs.out.push (by omega) (c := (y : Int)) (by rw [Hm'.out, Int.toNat_natCast]; exact Hmem.out) ⟨by omega, by omega⟩ Hyw.out Hin.out
                  refine ⟨j + 1, L' ++ [(y : Int)], by have := Hgj.out; omega, by go_num, hrange, ?_, by simp; omega, hM', by simpa using hO', hP', fun i hi hw => ?_⟩
                  · rw [getD_append_left' (by omega)]; exact Hm'.out
                  · by_cases e : i = j
                    · subst e; rw [Hy.out]; simp
                    · exact List.mem_append_left _ (Hall.out i (by omega) hw)
          · have hjl : j = xs.length := by have := Hgj.out; omega
            subst hjl
            have hnx := Hbfs.out.next (by omega) (fun c hc hw => by
              rw [Hm'.out, Int.toNat_natCast, Hxs.out] at hc
              obtain ⟨i, hi, e⟩ := mem_getD.1 hc
              rw [← e]; exact Hall.out i (by omega) (by rw [e]; exact hw))
            have Hnx := Lib.hid hnx
            clear hnx
            go_wp2
            go_roundg (xss.length - (k + 1))
            case measure => have := Hgk.out; omega
            case rel => exact ⟨L', k + 1, by have := Hgk.out; omega, by go_num, Hnx.out, Hseen.out, Hown.out, hp⟩
      · have hkL : k = L.length := by have := hbfs.hk; omega
        subst hkL
        have Hbfs := Lib.hid hbfs; clear hbfs
        have Hseen := Lib.hid hseen; clear hseen
        obtain ⟨Aq, cq, rfl⟩ := hown.form
        have Hown := Lib.hid hown; clear hown
        go_wp2
        go_ret
        exact seen_post Hseen.out Hbfs.out.done hp
end Go.Proofs.Ytmhaaihgepldhaa
