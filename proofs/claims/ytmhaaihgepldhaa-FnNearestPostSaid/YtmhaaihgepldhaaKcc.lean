/- Blocks of instructions that are drawn: they are balanced, and as short as they should be. The program that is drawn without faults: it is valid. Graphs that are drawn: any whatever, of bounded size. No condition. -/
import Derived.Test.YtmhaaihgepldhaaKbb
import Derived.Test.YtmhaaihgepldhaaKbc
import Derived.Test.YtmhaaihgepldhaaKbf
import Derived.Test.YtmhaaihgepldhaaKca
import Derived.Test.YtmhaaihgepldhaaKcb

namespace Go.Proofs.Ytmhaaihgepldhaa
open Go.RowKit

structure OutQ (dep t : Nat) (w0 w : World) (p : Nat) (vb : Value) (bs : List Int) (C L : Nat) (v : Value) (cs : List Cd) (wx : World) : Prop where
  o : Out w0 w p vb bs C L v cs wx
  mid : Mid dep t cs
section
variable {dep t t' : Nat} {w0 w wx wy : World} {p C D L M : Nat} {v v' : Value} {vb : Value} {bs : List Int} {cs ds : List Cd}
theorem OutQ.step (h : OutQ dep t w0 w p vb bs C L v cs wx) (hr : Rb w0 wy p vb bs D) (hg : OnlyAt p wx wy) : OutQ dep t w0 w p vb bs D L v cs wy := ⟨h.o.step hr hg, h.mid⟩
theorem OutQ.keep (h : OutQ dep t w0 w p vb bs C L v cs wx) (hp : Pure wx wy) : OutQ dep t w0 w p vb bs C L v cs wy := ⟨h.o.keep hp, h.mid⟩
theorem OutQ.more (h : OutQ dep t w0 w p vb bs C L v cs wx) (hD : C ≤ D) (hM : L ≤ M) : OutQ dep t w0 w p vb bs D M v cs wx := ⟨h.o.more hD hM, h.mid⟩
theorem OutQ.start {w1 : World} (hr : Rb w0 w1 p vb bs C) (hg : OnlyAt p w w1) (h00 : w0.heap.size ≤ w.heap.size) : OutQ dep 0 w0 w p vb bs C 0 (.slice (some ⟨w1.heap.size, 0, none⟩) 0 0) [] (w1.alloc (.cells #[] 65)) := ⟨Out.start hr hg h00, Mid.nil _⟩
theorem OutQ.appA (h : OutQ dep t w0 w p vb bs C L v cs wx) (hown : OwnO wy w.heap.size 65 4 v' (cs.length + ds.length) (cs.flatMap cdCells ++ ds.flatMap cdCells)) (hg : wx.grownBy wy v.ownBlock) (hd : ds.length ≤ M) (hm : Mid dep t cs → Mid dep t' (cs ++ ds)) :
    ∃ cs' A c, v' = .slice A cs'.length c ∧ cs'.length = cs.length + ds.length ∧ OutQ dep t' w0 w p vb bs C (L + M) v' cs' wy := by
  have hS := h.o.app hown hg hd
  obtain ⟨A, c, e⟩ := hS.own.form
  exact ⟨_, A, c, e, by simp, ⟨hS, hm h.mid⟩⟩
theorem OutQ.appQ (h : OutQ dep t w0 w p vb bs C L v cs wx) (hown : OwnO wy w.heap.size 65 4 v' (cs.length + ds.length) (cs.flatMap cdCells ++ ds.flatMap cdCells)) (hg : wx.grownBy wy v.ownBlock) (hd : ds.length ≤ M) (h0 : 0 < cs.length + ds.length) (hm : Mid dep t cs → Mid dep t' (cs ++ ds)) :
    ∃ cs' g off c, v' = .slice (some ⟨g, off, none⟩) cs'.length c ∧ 0 < cs'.length ∧ cs'.length = cs.length + ds.length ∧ OutQ dep t' w0 w p vb bs C (L + M) v' cs' wy := by
  have hS := h.o.app hown hg hd
  obtain ⟨g, off, c, e⟩ := hS.addr (by simpa using h0)
  exact ⟨_, g, off, c, e, by simpa using h0, by simp, ⟨hS, hm h.mid⟩⟩
end
def BlockQP (dep : Nat) (R : Int) (w0 w : World) (p : Nat) (vb : Value) (bs : List Int) (C L : Nat) (e : Ending) (w' : World) : Prop :=
  ∃ v cs, e = .returned v ∧ Out w0 w p vb bs C L v cs w' ∧ (∃ g off c, v = .slice (some ⟨g, off, none⟩) cs.length c) ∧ Mid dep 0 cs ∧ (cs.length : Int) ≤ R

set_option maxHeartbeats 8000000 in
set_option maxRecDepth 100000 in
theorem blockQ_step (d nb lb K : Nat) (hd : d ≤ 3) (hnb : nb ≤ 1000000) (hlb : lb ≤ 1000000) (hK : K ≤ 1000000000000) (w0 : World) (p : Nat) (vb : Value) (bs : List Int)
    (hrec : d < 3 → ∀ (w : World) (C : Nat) (room : Int), Rb w0 w p vb bs C → C ≤ K + 100000000 → 0 ≤ room → room ≤ 1099511627776 → Calls Try.prog 86 #[.pointer (some ⟨p, 0, none⟩), .int .i64 room, .int .i64 ((d : Int) + 1)] w (BlockQP (d + 1) room w0 w p vb bs (C + nb) lb))
    (w : World) (C : Nat) (room : Int) (h : Rb w0 w p vb bs C) (hc : C ≤ K) (hr1 : 0 ≤ room) (hr2 : room ≤ 1099511627776) :
    Calls Try.prog 86 #[.pointer (some ⟨p, 0, none⟩), .int .i64 room, .int .i64 (d : Int)] w (BlockQP d room w0 w p vb bs (C + 1 + 6 * (30 + 2 * nb)) (6 * (6 + 2 * lb))) := by
  have H := Lib.hid h
  have HREC := Lib.hid hrec
  have h00 := h.pure.size
  clear h hrec
  go_enter Try.func86, Try.ntmps86
  go_wp2_with fail
  have S0 := Lib.hid (OutQ.start (dep := d) H.out (Chg.refl _ w) h00)
  refine (pick_t w0 _ p C vb bs 6 6 rfl S0.out.o.rb (by omega) (by decide) (by decide)).mono ?_
  rintro e w1 ⟨x6, rfl, hx6, hr, hg⟩
  have S1 := Lib.hid (S0.out.step hr hg)
  clear hr hg S0
  go_wp2_with fail
  obtain ⟨tot, Ht⟩ : ∃ tot : Nat, Hid (1 + x6 = tot) := ⟨_, Lib.hid rfl⟩
  have ht6 : tot ≤ 6 := by have := Ht.out; omega
  go_loopg [7, 8] tot (fun gk vv kk wr => ∃ (v : Value) (cs : List Cd), gk ≤ tot ∧ kk = .int .i64 (gk : Int) ∧ vv = v ∧ (∃ g off c, v = .slice (some ⟨g, off, none⟩) cs.length c) ∧ OutQ d 0 w0 w p vb bs (C + 1 + (tot - gk) * (30 + 2 * nb)) ((tot - gk) * (6 + 2 * lb)) v cs wr ∧ (cs.length : Int) ≤ room)
  case atStart =>
    exact ⟨_, [], Nat.le_refl _, by rw [← Ht.out]; go_num, rfl, ⟨_, _, _, rfl⟩, S1.out.more (by simp) (by simp), by simpa using hr1⟩
  case round =>
    obtain ⟨v, cs, hgk, rfl, rfl, ⟨g, off, c, rfl⟩, hout, hlr0⟩ := hrel
    have hT6 : (tot - gk) * (30 + 2 * nb) ≤ 6 * (30 + 2 * nb) := Nat.mul_le_mul_right _ (by omega)
    have hL6 : (tot - gk) * (6 + 2 * lb) ≤ 6 * (6 + 2 * lb) := Nat.mul_le_mul_right _ (by omega)
    by_cases hg0 : gk = 0
    · subst hg0
      have S := Lib.hid hout
      clear hout S1
      go_wp2
      go_ret
      exact ⟨_, cs, rfl, S.out.o.more (by omega) (by omega), ⟨_, _, _, rfl⟩, S.out.mid, hlr0⟩
    have HTn : Hid ((tot - (gk - 1)) * (30 + 2 * nb) = (tot - gk) * (30 + 2 * nb) + (30 + 2 * nb)) := Lib.hid (by rw [show tot - (gk - 1) = (tot - gk) + 1 by omega, Nat.add_mul, Nat.one_mul])
    have HLn : Hid ((tot - (gk - 1)) * (6 + 2 * lb) = (tot - gk) * (6 + 2 * lb) + (6 + 2 * lb)) := Lib.hid (by rw [show tot - (gk - 1) = (tot - gk) + 1 by omega, Nat.add_mul, Nat.one_mul])
    obtain ⟨T, HT⟩ : ∃ T, Hid ((tot - gk) * (30 + 2 * nb) = T) := ⟨_, Lib.hid rfl⟩
    obtain ⟨L, HL⟩ : ∃ L, Hid ((tot - gk) * (6 + 2 * lb) = L) := ⟨_, Lib.hid rfl⟩
    rw [HT.out] at hout hT6 HTn
    rw [HL.out] at hout hL6 HLn
    have S := Lib.hid hout
    have hlen := hout.o.len
    clear hout S1 HT HL
    by_cases hlr : (cs.length : Int) < room
    · skip
      go_wp2_with fail
      refine (pick_t w0 _ p (C + 1 + T) vb bs 7 7 rfl S.out.o.rb (by omega) (by decide) (by decide)).mono ?_
      rintro e wa ⟨xwa, rfl, hxwa, hrwa, hgwa⟩
      have Sa := Lib.hid (S.out.step hrwa hgwa)
      clear hrwa hgwa S
      have hx7 : xwa = 0 ∨ xwa = 1 ∨ xwa = 2 ∨ (3 ≤ xwa ∧ xwa < 7) := by omega
      rcases hx7 with rfl | rfl | rfl | ⟨h3, h7⟩
      · by_cases hd3 : d < 3
        · by_cases hroom : room - (cs.length : Int) ≥ 6
          · skip
            go_wp2_with fail
            refine (pick_t w0 _ p (C + 1 + T + 1) vb bs 4 4 rfl Sa.out.o.rb (by omega) (by decide) (by decide)).mono ?_
            rintro e wb ⟨xwb, rfl, hxwb, hrwb, hgwb⟩
            have Sb := Lib.hid (Sa.out.step hrwb hgwb)
            clear hrwb hgwb Sa
            go_wp2_with (at_builtin; go_must (refine wl_appendLF elCode rfl _ _ rfl w.heap.size _ _ _ rfl Sb.out.o.own _ 1 _ [.int .i64 (11), .int .i64 (xwb), .int .i64 (0), .int .i64 (0)] rfl rfl rfl rfl (by decide) (by have := Sb.out.o.len; omega) Sb.out.o.at_.size ?_); intro v' wc hq hgq _; obtain ⟨cs1, g1, o1, c1, rfl, hpos1, hn1, hS1⟩ := Sb.out.appQ (t' := 11) (ds := [⟨11, xwb, 0, 0⟩]) (M := 1) hq hgq (by simp) (by simp) (fun h => h.opens hd3 (ifQ hxwb) rfl (.inl rfl)); have HN1 := Lib.hid (show cs1.length = _ + 1 from hn1); clear hn1; have Sc := Lib.hid hS1; have hln1 := hS1.o.len; clear hq hgq hS1)
            refine (pick_t w0 _ p (C + 1 + T + 1 + 1) vb bs 3 3 rfl Sc.out.o.rb (by omega) (by decide) (by decide)).mono ?_
            rintro e wd ⟨x3, rfl, hx3, hr3, hg3⟩
            have Sd := Lib.hid (Sc.out.step hr3 hg3)
            clear hr3 hg3 Sc
            go_upto_if 49 with fail
            go_cut [7] (fun vv wx => ∃ (v : Value) (cs : List Cd), vv = v ∧ (∃ g off c, v = .slice (some ⟨g, off, none⟩) cs.length c) ∧ 0 < cs.length ∧ OutQ d 11 w0 w p vb bs (C + 1 + T + 5 + nb) (L + 2 + lb) v cs wx ∧ (cs.length : Int) ≤ room - 3)
            case first =>
              have hlen1 := Sd.out.o.len
              by_cases hx0 : x3 = 0
              · subst hx0
                go_wp2_with fail
                refine (pick_t w0 _ p (C + 1 + T + 1 + 1 + 1) vb bs 4 4 rfl Sd.out.o.rb (by omega) (by decide) (by decide)).mono ?_
                rintro e we ⟨xwe, rfl, hxwe, hrwe, hgwe⟩
                have Se := Lib.hid (Sd.out.step hrwe hgwe)
                clear hrwe hgwe Sd
                go_wp2_with fail
                refine (pick_t w0 _ p (C + 1 + T + 1 + 1 + 1 + 1) vb bs 4 4 rfl Se.out.o.rb (by omega) (by decide) (by decide)).mono ?_
                rintro e wf ⟨xwf, rfl, hxwf, hrwf, hgwf⟩
                have Sf := Lib.hid (Se.out.step hrwf hgwf)
                clear hrwf hgwf Se
                go_wp2_with (at_builtin; go_must (refine wl_appendLF elCode rfl _ _ rfl w.heap.size _ _ _ rfl Sf.out.o.own _ 1 _ [.int .i64 (5), .int .i64 (xwe), .int .i64 (xwf), .int .i64 (0)] rfl rfl rfl rfl (by decide) (by have := Sf.out.o.len; omega) Sf.out.o.at_.size ?_); intro v' wg hq hgq _; obtain ⟨cs2, g2, o2, c2, rfl, hpos2, hn2, hS2⟩ := Sf.out.appQ (t' := 11) (ds := [⟨5, xwe, xwf, 0⟩]) (M := 1) hq hgq (by simp) (by simp) (fun h => h.plain (plainQ3 (by decide) hxwe hxwf)); have HN2 := Lib.hid (show cs2.length = _ + 1 from hn2); clear hn2; have Sg := Lib.hid hS2; have hln2 := hS2.o.len; clear hq hgq hS2)
                go_meet
                case rel => exact ⟨_, _, rfl, ⟨_, _, _, rfl⟩, hpos2, Sg.out.more (by omega) (by omega), by have := HN1.out; have := HN2.out; omega⟩
              · have hxb : ((x3 : Int) == 0) = false := by simp [hx0]
                clear hx0
                go_wp2_with fail
                all_goals
                  refine (HREC.out hd3 _ (C + 1 + T + 1 + 1 + 1) _ Sd.out.o.rb (by omega) (by have := Sd.out.o.len; have := HN1.out; omega) (by have := Sd.out.o.len; have := HN1.out; omega)).mono ?_
                  rintro e wr3 ⟨vr3, csr3, rfl, hor3, ⟨gr3, or3, cr3, rfl⟩, hmr3, hlr3⟩
                  have T3 := Lib.hid (Sd.out.step hor3.rb hor3.at_)
                  have R3 := Lib.hid hor3
                  have HMR3 := Lib.hid hmr3
                  have HLR3 := Lib.hid hlr3
                  clear hor3 hmr3 hlr3 Sd
                  go_wp2_with (at_builtin; refine wl_appendF elCode rfl _ _ rfl w.heap.size _ _ _ rfl T3.out.o.own gr3 or3 csr3.length _ (csr3.flatMap cdCells) rfl (flat4 _) (fun j u hu => (R3.out.own.cell j (by have := (List.getElem?_eq_some_iff.1 hu).1; rw [flat4] at this; exact this)).trans hu) (fun u hu => (List.all_eq_true.1 (one_cells _)) u hu) (by have := T3.out.o.len; have := R3.out.len; omega) (by have := T3.out.o.len; have := R3.out.len; omega) T3.out.o.at_.size ?_; intro v' wq3 hq hgq _; obtain ⟨cs3, g3, o3, c3, rfl, hpos3, hn3, hS3⟩ := T3.out.appQ (t' := 11) (M := lb) hq hgq R3.out.len (by omega) (fun h => h.body (by decide) HMR3.out); have HN3 := Lib.hid hn3; clear hn3; have S3 := Lib.hid hS3; have hln3 := hS3.o.len; clear hq hgq hS3)
                  go_meet
                  case rel => exact ⟨_, _, rfl, ⟨_, _, _, rfl⟩, hpos3, S3.out.more (by omega) (by omega), by have := HN1.out; have := HN3.out; have := HLR3.out; omega⟩
            case rest =>
              obtain ⟨vv, cs5, rfl, ⟨g5, o5, c5, rfl⟩, hpos5, hS5, hlr5⟩ := hcut
              have Sk := Lib.hid hS5
              have hlen5 := hS5.o.len
              clear hS5 Sd
              by_cases hge : room - (cs5.length : Int) ≥ 4
              · skip
                go_wp2_with fail
                refine (pick_t w0 _ p (C + 1 + T + 5 + nb) vb bs 2 2 rfl Sk.out.o.rb (by omega) (by decide) (by decide)).mono ?_
                rintro e wk ⟨xwk, rfl, hxwk, hrwk, hgwk⟩
                have Sl := Lib.hid (Sk.out.step hrwk hgwk)
                clear hrwk hgwk Sk
                by_cases hx0 : xwk = 0
                · subst hx0
                  go_wp2_with (at_builtin; go_must (refine wl_appendLF elCode rfl _ _ rfl w.heap.size _ _ _ rfl Sl.out.o.own _ 1 _ [.int .i64 (12), .int .i64 (0), .int .i64 (0), .int .i64 (0)] rfl rfl rfl rfl (by decide) (by have := Sl.out.o.len; omega) Sl.out.o.at_.size ?_); intro v' wl hq hgq _; obtain ⟨cs6, g6, o6, c6, rfl, hpos6, hn6, hS6⟩ := Sl.out.appQ (t' := 12) (ds := [⟨12, 0, 0, 0⟩]) (M := 1) hq hgq (by simp) (by simp) (fun h => h.els); have HN6 := Lib.hid (show cs6.length = _ + 1 from hn6); clear hn6; have Sm := Lib.hid hS6; have hln6 := hS6.o.len; clear hq hgq hS6)
                  all_goals
                    refine (HREC.out hd3 _ (C + 1 + T + 5 + nb + 1) _ Sm.out.o.rb (by omega) (by have := Sm.out.o.len; have := HN6.out; omega) (by have := Sm.out.o.len; have := HN6.out; omega)).mono ?_
                    rintro e wr7 ⟨vr7, csr7, rfl, hor7, ⟨gr7, or7, cr7, rfl⟩, hmr7, hlr7⟩
                    have T7 := Lib.hid (Sm.out.step hor7.rb hor7.at_)
                    have R7 := Lib.hid hor7
                    have HMR7 := Lib.hid hmr7
                    have HLR7 := Lib.hid hlr7
                    clear hor7 hmr7 hlr7 Sm
                    go_wp2_with (first | (at_builtin; refine wl_appendF elCode rfl _ _ rfl w.heap.size _ _ _ rfl T7.out.o.own gr7 or7 csr7.length _ (csr7.flatMap cdCells) rfl (flat4 _) (fun j u hu => (R7.out.own.cell j (by have := (List.getElem?_eq_some_iff.1 hu).1; rw [flat4] at this; exact this)).trans hu) (fun u hu => (List.all_eq_true.1 (one_cells _)) u hu) (by have := T7.out.o.len; have := R7.out.len; omega) (by have := T7.out.o.len; have := R7.out.len; omega) T7.out.o.at_.size ?_; intro v' wq7 hq hgq _; obtain ⟨cs7, g7, o7, c7, rfl, hpos7, hn7, hS7⟩ := T7.out.appQ (t' := 12) (M := lb) hq hgq R7.out.len (by omega) (fun h => h.body (by decide) HMR7.out); have HN7 := Lib.hid hn7; clear hn7; have S7 := Lib.hid hS7; have hln7 := hS7.o.len; clear hq hgq hS7) | (at_builtin; (refine wl_appendLF elCode rfl _ _ rfl w.heap.size _ _ _ rfl S7.out.o.own _ 1 _ [.int .i64 (14), .int .i64 (0), .int .i64 (0), .int .i64 (0)] rfl rfl rfl rfl (by decide) (by have := S7.out.o.len; omega) S7.out.o.at_.size ?_); intro v' wz7 hq hgq _; obtain ⟨csz7, gz7, oz7, cz7, rfl, hposz7, hnz7, hSz7⟩ := S7.out.appQ (t' := 0) (ds := [⟨14, 0, 0, 0⟩]) (M := 1) hq hgq (by simp) (by simp) (fun h => h.end_ (by decide)); have HNz7 := Lib.hid (show csz7.length = _ + 1 from hnz7); clear hnz7; have Sz7 := Lib.hid hSz7; have hlnz7 := hSz7.o.len; clear hq hgq hSz7))
                    go_roundg (gk - 1)
                    case measure => omega
                    case rel =>
                      have hgk1 : ((gk - 1 : Nat) : Int) = (gk : Int) - 1 := by omega
                      exact ⟨_, _, by omega, by rw [hgk1], rfl, ⟨_, _, _, rfl⟩, by rw [HTn.out, HLn.out]; exact Sz7.out.more (by omega) (by omega), by have := HN6.out; have := HN7.out; have := HNz7.out; have := HLR7.out; omega⟩
                · have hxb : ((xwk : Int) == 0) = false := by simp [hx0]
                  clear hx0
                  go_wp2_with (at_builtin; go_must (refine wl_appendLF elCode rfl _ _ rfl w.heap.size _ _ _ rfl Sl.out.o.own _ 1 _ [.int .i64 (14), .int .i64 (0), .int .i64 (0), .int .i64 (0)] rfl rfl rfl rfl (by decide) (by have := Sl.out.o.len; omega) Sl.out.o.at_.size ?_); intro v' wy2 hq hgq _; obtain ⟨csy2, gy2, oy2, cy2, rfl, hposy2, hny2, hSy2⟩ := Sl.out.appQ (t' := 0) (ds := [⟨14, 0, 0, 0⟩]) (M := 1) hq hgq (by simp) (by simp) (fun h => h.end_ (by decide)); have HNy2 := Lib.hid (show csy2.length = _ + 1 from hny2); clear hny2; have Sy2 := Lib.hid hSy2; have hlny2 := hSy2.o.len; clear hq hgq hSy2)
                  go_roundg (gk - 1)
                  case measure => omega
                  case rel =>
                    have hgk1 : ((gk - 1 : Nat) : Int) = (gk : Int) - 1 := by omega
                    exact ⟨_, _, by omega, by rw [hgk1], rfl, ⟨_, _, _, rfl⟩, by rw [HTn.out, HLn.out]; exact Sy2.out.more (by omega) (by omega), by have := HNy2.out; omega⟩
              · skip
                go_wp2_with (at_builtin; go_must (refine wl_appendLF elCode rfl _ _ rfl w.heap.size _ _ _ rfl Sk.out.o.own _ 1 _ [.int .i64 (14), .int .i64 (0), .int .i64 (0), .int .i64 (0)] rfl rfl rfl rfl (by decide) (by have := Sk.out.o.len; omega) Sk.out.o.at_.size ?_); intro v' wy3 hq hgq _; obtain ⟨csy3, gy3, oy3, cy3, rfl, hposy3, hny3, hSy3⟩ := Sk.out.appQ (t' := 0) (ds := [⟨14, 0, 0, 0⟩]) (M := 1) hq hgq (by simp) (by simp) (fun h => h.end_ (by decide)); have HNy3 := Lib.hid (show csy3.length = _ + 1 from hny3); clear hny3; have Sy3 := Lib.hid hSy3; have hlny3 := hSy3.o.len; clear hq hgq hSy3)
                go_roundg (gk - 1)
                case measure => omega
                case rel =>
                  have hgk1 : ((gk - 1 : Nat) : Int) = (gk : Int) - 1 := by omega
                  exact ⟨_, _, by omega, by rw [hgk1], rfl, ⟨_, _, _, rfl⟩, by rw [HTn.out, HLn.out]; exact Sy3.out.more (by omega) (by omega), by have := HNy3.out; omega⟩
          · go_wp2
            go_roundg (gk - 1)
            case measure => omega
            case rel =>
              have hgk1 : ((gk - 1 : Nat) : Int) = (gk : Int) - 1 := by omega
              exact ⟨_, _, by omega, by rw [hgk1], rfl, ⟨_, _, _, rfl⟩, by rw [HTn.out, HLn.out]; exact Sa.out.more (by omega) (by omega), by omega⟩
        · go_wp2
          go_roundg (gk - 1)
          case measure => omega
          case rel =>
            have hgk1 : ((gk - 1 : Nat) : Int) = (gk : Int) - 1 := by omega
            exact ⟨_, _, by omega, by rw [hgk1], rfl, ⟨_, _, _, rfl⟩, by rw [HTn.out, HLn.out]; exact Sa.out.more (by omega) (by omega), by omega⟩
      · by_cases hd3 : d < 3
        · by_cases hroom : room - (cs.length : Int) ≥ 5
          · skip
            go_wp2_with fail
            refine (pick_t w0 _ p (C + 1 + T + 1) vb bs 4 4 rfl Sa.out.o.rb (by omega) (by decide) (by decide)).mono ?_
            rintro e wb ⟨xwb, rfl, hxwb, hrwb, hgwb⟩
            have Sb := Lib.hid (Sa.out.step hrwb hgwb)
            clear hrwb hgwb Sa
            go_wp2_with fail
            refine (pick_t w0 _ p (C + 1 + T + 1 + 1) vb bs 4 4 rfl Sb.out.o.rb (by omega) (by decide) (by decide)).mono ?_
            rintro e wc ⟨xwc, rfl, hxwc, hrwc, hgwc⟩
            have Sc := Lib.hid (Sb.out.step hrwc hgwc)
            clear hrwc hgwc Sb
            go_wp2_with (at_builtin; go_must (refine wl_appendLF elCode rfl _ _ rfl w.heap.size _ _ _ rfl Sc.out.o.own _ 1 _ [.int .i64 (13), .int .i64 (xwb), .int .i64 (1 + (xwc : Int)), .int .i64 (0)] rfl rfl rfl rfl (by decide) (by have := Sc.out.o.len; omega) Sc.out.o.at_.size ?_); intro v' wd hq hgq _; obtain ⟨cs1, g1, o1, c1, rfl, hpos1, hn1, hS1⟩ := Sc.out.appQ (t' := 13) (ds := [⟨13, xwb, 1 + (xwc : Int), 0⟩]) (M := 1) hq hgq (by simp) (by simp) (fun h => h.opens hd3 (loopQ hxwb hxwc) rfl (.inr rfl)); have HN1 := Lib.hid (show cs1.length = _ + 1 from hn1); clear hn1; have Sd := Lib.hid hS1; have hln1 := hS1.o.len; clear hq hgq hS1)
            all_goals
              refine (HREC.out hd3 _ (C + 1 + T + 1 + 1 + 1) _ Sd.out.o.rb (by omega) (by have := Sd.out.o.len; have := HN1.out; omega) (by have := Sd.out.o.len; have := HN1.out; omega)).mono ?_
              rintro e wr2 ⟨vr2, csr2, rfl, hor2, ⟨gr2, or2, cr2, rfl⟩, hmr2, hlr2⟩
              have T2 := Lib.hid (Sd.out.step hor2.rb hor2.at_)
              have R2 := Lib.hid hor2
              have HMR2 := Lib.hid hmr2
              have HLR2 := Lib.hid hlr2
              clear hor2 hmr2 hlr2 Sd
              go_wp2_with (first | (at_builtin; refine wl_appendF elCode rfl _ _ rfl w.heap.size _ _ _ rfl T2.out.o.own gr2 or2 csr2.length _ (csr2.flatMap cdCells) rfl (flat4 _) (fun j u hu => (R2.out.own.cell j (by have := (List.getElem?_eq_some_iff.1 hu).1; rw [flat4] at this; exact this)).trans hu) (fun u hu => (List.all_eq_true.1 (one_cells _)) u hu) (by have := T2.out.o.len; have := R2.out.len; omega) (by have := T2.out.o.len; have := R2.out.len; omega) T2.out.o.at_.size ?_; intro v' wq2 hq hgq _; obtain ⟨cs2, g2, o2, c2, rfl, hpos2, hn2, hS2⟩ := T2.out.appQ (t' := 13) (M := lb) hq hgq R2.out.len (by omega) (fun h => h.body (by decide) HMR2.out); have HN2 := Lib.hid hn2; clear hn2; have S2 := Lib.hid hS2; have hln2 := hS2.o.len; clear hq hgq hS2) | (at_builtin; (refine wl_appendLF elCode rfl _ _ rfl w.heap.size _ _ _ rfl S2.out.o.own _ 1 _ [.int .i64 (14), .int .i64 (0), .int .i64 (0), .int .i64 (0)] rfl rfl rfl rfl (by decide) (by have := S2.out.o.len; omega) S2.out.o.at_.size ?_); intro v' wz2 hq hgq _; obtain ⟨csz2, gz2, oz2, cz2, rfl, hposz2, hnz2, hSz2⟩ := S2.out.appQ (t' := 0) (ds := [⟨14, 0, 0, 0⟩]) (M := 1) hq hgq (by simp) (by simp) (fun h => h.end_ (by decide)); have HNz2 := Lib.hid (show csz2.length = _ + 1 from hnz2); clear hnz2; have Sz2 := Lib.hid hSz2; have hlnz2 := hSz2.o.len; clear hq hgq hSz2))
              go_roundg (gk - 1)
              case measure => omega
              case rel =>
                have hgk1 : ((gk - 1 : Nat) : Int) = (gk : Int) - 1 := by omega
                exact ⟨_, _, by omega, by rw [hgk1], rfl, ⟨_, _, _, rfl⟩, by rw [HTn.out, HLn.out]; exact Sz2.out.more (by omega) (by omega), by have := HN1.out; have := HN2.out; have := HNz2.out; have := HLR2.out; omega⟩
          · go_wp2
            go_roundg (gk - 1)
            case measure => omega
            case rel =>
              have hgk1 : ((gk - 1 : Nat) : Int) = (gk : Int) - 1 := by omega
              exact ⟨_, _, by omega, by rw [hgk1], rfl, ⟨_, _, _, rfl⟩, by rw [HTn.out, HLn.out]; exact Sa.out.more (by omega) (by omega), by omega⟩
        · go_wp2
          go_roundg (gk - 1)
          case measure => omega
          case rel =>
            have hgk1 : ((gk - 1 : Nat) : Int) = (gk : Int) - 1 := by omega
            exact ⟨_, _, by omega, by rw [hgk1], rfl, ⟨_, _, _, rfl⟩, by rw [HTn.out, HLn.out]; exact Sa.out.more (by omega) (by omega), by omega⟩
      · by_cases hd0 : d = 0
        · subst hd0
          go_wp2_with (at_builtin; go_must (refine wl_appendLF elCode rfl _ _ rfl w.heap.size _ _ _ rfl Sa.out.o.own _ 1 _ [.int .i64 (10), .int .i64 (0), .int .i64 (0), .int .i64 (0)] rfl rfl rfl rfl (by decide) (by have := Sa.out.o.len; omega) Sa.out.o.at_.size ?_); intro v' wb hq hgq _; obtain ⟨cs1, g1, o1, c1, rfl, hpos1, hn1, hS1⟩ := Sa.out.appQ (t' := 0) (ds := [⟨10, 0, 0, 0⟩]) (M := 1) hq hgq (by simp) (by simp) (fun h => h.plain plainQ10); have HN1 := Lib.hid (show cs1.length = _ + 1 from hn1); clear hn1; have Sb := Lib.hid hS1; have hln1 := hS1.o.len; clear hq hgq hS1)
          go_roundg (gk - 1)
          case measure => omega
          case rel =>
            have hgk1 : ((gk - 1 : Nat) : Int) = (gk : Int) - 1 := by omega
            exact ⟨_, _, by omega, by rw [hgk1], rfl, ⟨_, _, _, rfl⟩, by rw [HTn.out, HLn.out]; exact Sb.out.more (by omega) (by omega), by first | (have := HN1.out; omega) | (omega)⟩
        · have hdb : ((d : Int) == 0) = false := by simp [hd0]
          go_wp2_with fail
          refine (pick_t w0 _ p (C + 1 + T + 1) vb bs 9 9 rfl Sa.out.o.rb (by omega) (by decide) (by decide)).mono ?_
          rintro e wb ⟨xwb, rfl, hxwb, hrwb, hgwb⟩
          have Sb := Lib.hid (Sa.out.step hrwb hgwb)
          clear hrwb hgwb Sa
          by_cases hx0 : xwb = 0
          · subst hx0
            go_wp2_with (at_builtin; go_must (refine wl_appendLF elCode rfl _ _ rfl w.heap.size _ _ _ rfl Sb.out.o.own _ 1 _ [.int .i64 (10), .int .i64 (0), .int .i64 (0), .int .i64 (0)] rfl rfl rfl rfl (by decide) (by have := Sb.out.o.len; omega) Sb.out.o.at_.size ?_); intro v' wc hq hgq _; obtain ⟨cs1, g1, o1, c1, rfl, hpos1, hn1, hS1⟩ := Sb.out.appQ (t' := 0) (ds := [⟨10, 0, 0, 0⟩]) (M := 1) hq hgq (by simp) (by simp) (fun h => h.plain plainQ10); have HN1 := Lib.hid (show cs1.length = _ + 1 from hn1); clear hn1; have Sc := Lib.hid hS1; have hln1 := hS1.o.len; clear hq hgq hS1)
            go_roundg (gk - 1)
            case measure => omega
            case rel =>
              have hgk1 : ((gk - 1 : Nat) : Int) = (gk : Int) - 1 := by omega
              exact ⟨_, _, by omega, by rw [hgk1], rfl, ⟨_, _, _, rfl⟩, by rw [HTn.out, HLn.out]; exact Sc.out.more (by omega) (by omega), by have := HN1.out; omega⟩
          · have hxb : ((xwb : Int) == 0) = false := by simp [hx0]
            go_wp2
            go_roundg (gk - 1)
            case measure => omega
            case rel =>
              have hgk1 : ((gk - 1 : Nat) : Int) = (gk : Int) - 1 := by omega
              exact ⟨_, _, by omega, by rw [hgk1], rfl, ⟨_, _, _, rfl⟩, by rw [HTn.out, HLn.out]; exact Sb.out.more (by omega) (by omega), by first | (have := HN1.out; omega) | (omega)⟩

      · have hb0 : ((xwa : Int) == 0) = false := by simp; omega
        have hb1 : ((xwa : Int) == 1) = false := by simp; omega
        have hb2 : ((xwa : Int) == 2) = false := by simp; omega
        go_wp2_with fail
        refine (plainQ_any w0 _ p (C + 1 + T + 1) vb bs Sa.out.o.rb (by omega)).mono ?_
        rintro e wb ⟨⟨z0, z1, z2, z3⟩, rfl, hpl, hrb, hgb⟩
        have HPL := Lib.hid hpl
        clear hpl
        have Sb := Lib.hid (Sa.out.step hrb hgb)
        clear hrb hgb Sa
        unfold cdv
        go_wp2_with (at_builtin; go_must (refine wl_appendLF elCode rfl _ _ rfl w.heap.size _ _ _ rfl Sb.out.o.own _ 1 _ [.int .i64 (z0), .int .i64 (z1), .int .i64 (z2), .int .i64 (z3)] rfl rfl rfl rfl (by decide) (by have := Sb.out.o.len; omega) Sb.out.o.at_.size ?_); intro v' wc hq hgq _; obtain ⟨cs1, g1, o1, c1, rfl, hpos1, hn1, hS1⟩ := Sb.out.appQ (t' := 0) (ds := [⟨z0, z1, z2, z3⟩]) (M := 1) hq hgq (by simp) (by simp) (fun h => h.plain HPL.out); have HN1 := Lib.hid (show cs1.length = _ + 1 from hn1); clear hn1; have Sc := Lib.hid hS1; have hln1 := hS1.o.len; clear hq hgq hS1)
        go_roundg (gk - 1)
        case measure => omega
        case rel =>
          have hgk1 : ((gk - 1 : Nat) : Int) = (gk : Int) - 1 := by omega
          exact ⟨_, _, by omega, by rw [hgk1], rfl, ⟨_, _, _, rfl⟩, by rw [HTn.out, HLn.out]; exact Sc.out.more (by omega) (by omega), by have := HN1.out; omega⟩
    · go_wp2
      go_ret
      exact ⟨_, cs, rfl, S.out.o.more (by omega) (by omega), ⟨_, _, _, rfl⟩, S.out.mid, hlr0⟩

end Go.Proofs.Ytmhaaihgepldhaa

namespace Go.Proofs.Ytmhaaihgepldhaa
open Go.RowKit

theorem blockQ_3 (w0 : World) (p : Nat) (vb : Value) (bs : List Int) (w : World) (C : Nat) (room : Int) (h : Rb w0 w p vb bs C) (hc : C ≤ 1000000000000) (hr1 : 0 ≤ room) (hr2 : room ≤ 1099511627776) :
    Calls Try.prog 86 #[.pointer (some ⟨p, 0, none⟩), .int .i64 room, .int .i64 ((3 : Nat) : Int)] w (BlockQP 3 room w0 w p vb bs (C + 181) 36) :=
  (blockQ_step 3 0 0 1000000000000 (by decide) (by decide) (by decide) (by decide) w0 p vb bs (fun h => absurd h (by decide)) w C room h hc hr1 hr2).mono fun e w' ⟨v, cs, he, ho, hf⟩ => ⟨v, cs, he, ho.more (by omega) (by omega), hf⟩
theorem blockQ_2 (w0 : World) (p : Nat) (vb : Value) (bs : List Int) (w : World) (C : Nat) (room : Int) (h : Rb w0 w p vb bs C) (hc : C ≤ 999900000000) (hr1 : 0 ≤ room) (hr2 : room ≤ 1099511627776) :
    Calls Try.prog 86 #[.pointer (some ⟨p, 0, none⟩), .int .i64 room, .int .i64 ((2 : Nat) : Int)] w (BlockQP 2 room w0 w p vb bs (C + 2353) 468) :=
  (blockQ_step 2 181 36 999900000000 (by decide) (by decide) (by decide) (by decide) w0 p vb bs (fun _ w C room h hc h1 h2 => blockQ_3 w0 p vb bs w C room h (by omega) h1 h2) w C room h hc hr1 hr2).mono fun e w' ⟨v, cs, he, ho, hf⟩ => ⟨v, cs, he, ho.more (by omega) (by omega), hf⟩
theorem blockQ_1 (w0 : World) (p : Nat) (vb : Value) (bs : List Int) (w : World) (C : Nat) (room : Int) (h : Rb w0 w p vb bs C) (hc : C ≤ 999800000000) (hr1 : 0 ≤ room) (hr2 : room ≤ 1099511627776) :
    Calls Try.prog 86 #[.pointer (some ⟨p, 0, none⟩), .int .i64 room, .int .i64 ((1 : Nat) : Int)] w (BlockQP 1 room w0 w p vb bs (C + 28417) 5652) :=
  (blockQ_step 1 2353 468 999800000000 (by decide) (by decide) (by decide) (by decide) w0 p vb bs (fun _ w C room h hc h1 h2 => blockQ_2 w0 p vb bs w C room h (by omega) h1 h2) w C room h hc hr1 hr2).mono fun e w' ⟨v, cs, he, ho, hf⟩ => ⟨v, cs, he, ho.more (by omega) (by omega), hf⟩
theorem blockQ_any (w0 : World) (p : Nat) (vb : Value) (bs : List Int) (w : World) (C : Nat) (room : Int) (h : Rb w0 w p vb bs C) (hc : C ≤ 999700000000) (hr1 : 0 ≤ room) (hr2 : room ≤ 1099511627776) :
    Calls Try.prog 86 #[.pointer (some ⟨p, 0, none⟩), .int .i64 room, .int .i64 0] w (BlockQP 0 room w0 w p vb bs (C + 341185) 67860) :=
  (blockQ_step 0 28417 5652 999700000000 (by decide) (by decide) (by decide) (by decide) w0 p vb bs (fun _ w C room h hc h1 h2 => blockQ_1 w0 p vb bs w C room h (by omega) h1 h2) w C room h hc hr1 hr2).mono fun e w' ⟨v, cs, he, ho, hf⟩ => ⟨v, cs, he, ho.more (by omega) (by omega), hf⟩

theorem Mid.plain2 {dep t : Nat} {cs : List Cd} {a b : Cd} (h : Mid dep t cs) (ha : PlainCd a) (hb : PlainCd b) : Mid dep t (cs ++ [a, b]) := by
  have := (h.plain ha).plain hb
  rwa [List.append_assoc] at this
theorem Mid.plain3 {dep t : Nat} {cs : List Cd} {a b c : Cd} (h : Mid dep t cs) (ha : PlainCd a) (hb : PlainCd b) (hc : PlainCd c) : Mid dep t (cs ++ [a, b, c]) := by
  have := (h.plain2 ha hb).plain hc
  rwa [List.append_assoc] at this
theorem odd_0 (w0 w : World) (p C : Nat) (vb : Value) (bs : List Int) (h : Rb w0 w p vb bs C) :
    Calls Try.prog 83 #[.pointer (some ⟨p, 0, none⟩), .int .i64 0] w fun e w' => e = .returned (.bool false) ∧ Rb w0 w' p vb bs (C + 1) ∧ OnlyAt p w w' := by
  have H := Lib.hid h
  clear h
  go_enter Try.func83, Try.ntmps83
  go_wp2
  go_ret
  exact ⟨rfl, H.out.more (by omega), Chg.refl _ _⟩
def ProgQP (w0 w : World) (p : Nat) (vb : Value) (bs : List Int) (C L : Nat) (e : Ending) (w' : World) : Prop :=
  ∃ v cs, e = .returned v ∧ Out w0 w p vb bs C L v cs w' ∧ Mid 0 0 cs ∧ cs.length ≤ 40

set_option maxHeartbeats 8000000 in
set_option maxRecDepth 100000 in
theorem progQ_any (w0 w : World) (p C : Nat) (vb : Value) (bs : List Int) (h : Rb w0 w p vb bs C) (hc : C ≤ 900000000000) :
    Calls Try.prog 67 #[.pointer (some ⟨p, 0, none⟩), .int .i64 0] w (ProgQP w0 w p vb bs (C + 2000000) 300000) := by
  have H := Lib.hid h
  have h00 := h.pure.size
  clear h
  go_enter Try.func67, Try.ntmps67
  have S0 := Lib.hid (OutQ.start (dep := 0) H.out (Chg.refl _ w) h00)
  go_wp2_with fail
  refine (pick_t w0 _ p (C) vb bs 4 4 rfl S0.out.o.rb (by omega) (by decide) (by decide)).mono ?_
  rintro e wa ⟨xwa, rfl, hxwa, hrwa, hgwa⟩
  have Sa := Lib.hid (S0.out.step hrwa hgwa)
  clear hrwa hgwa
  clear S0
  go_upto_block 0 with fail
  go_cut [5] (fun vv wx => ∃ (v : Value) (cs : List Cd), vv = v ∧ FormP v cs ∧ OutQ 0 0 w0 w p vb bs (C + 3) 3 v cs wx)
  case first =>
    have hx4 : xwa = 0 ∨ xwa = 1 ∨ xwa = 2 ∨ 3 ≤ xwa := by omega
    rcases hx4 with rfl | rfl | rfl | h3
    · go_wp2_with (at_builtin; go_must (refine wl_appendLF elCode rfl _ _ rfl w.heap.size _ _ _ rfl Sa.out.o.own _ 2 _ [.int .i64 (2), .int .i64 (0), .int .i64 (0), .int .i64 (0), .int .i64 (5), .int .i64 (1), .int .i64 (0), .int .i64 (0)] rfl rfl rfl rfl (by decide) (by have := Sa.out.o.len; omega) Sa.out.o.at_.size ?_); intro v' wq1 hq hgq _; obtain ⟨cs1, g1, o1, c1, rfl, hpos1, hn1, hS1⟩ := Sa.out.appQ (t' := 0) (ds := [⟨2, 0, 0, 0⟩, ⟨5, 1, 0, 0⟩]) (M := 2) hq hgq (by simp) (by simp) (fun h => h.plain2 (plainQ2 (z := 0) (by decide)) (plainQ3 (z := 1) (x := 0) (by decide) (by decide) (by decide))); have HN1 := Lib.hid (show cs1.length = _ + 2 from hn1); clear hn1; have Sb := Lib.hid hS1; have hln1 := hS1.o.len; clear hq hgq hS1)
      go_meet
      case rel => exact ⟨_, _, rfl, ⟨_, _, rfl⟩, Sb.out.more (by omega) (by omega)⟩
    · go_wp2_with (at_builtin; go_must (refine wl_appendLF elCode rfl _ _ rfl w.heap.size _ _ _ rfl Sa.out.o.own _ 3 _ [.int .i64 (2), .int .i64 (3), .int .i64 (0), .int .i64 (0), .int .i64 (8), .int .i64 (0), .int .i64 (3), .int .i64 (0), .int .i64 (9), .int .i64 (0), .int .i64 (3), .int .i64 (0)] rfl rfl rfl rfl (by decide) (by have := Sa.out.o.len; omega) Sa.out.o.at_.size ?_); intro v' wq1 hq hgq _; obtain ⟨cs1, g1, o1, c1, rfl, hpos1, hn1, hS1⟩ := Sa.out.appQ (t' := 0) (ds := [⟨2, 3, 0, 0⟩, ⟨8, 0, 3, 0⟩, ⟨9, 0, 3, 0⟩]) (M := 3) hq hgq (by simp) (by simp) (fun h => h.plain3 (plainQ2 (z := 3) (by decide)) (plainQ3 (z := 0) (x := 3) (by decide) (by decide) (by decide)) (plainQ3 (z := 0) (x := 3) (by decide) (by decide) (by decide))); have HN1 := Lib.hid (show cs1.length = _ + 3 from hn1); clear hn1; have Sb := Lib.hid hS1; have hln1 := hS1.o.len; clear hq hgq hS1)
      go_meet
      case rel => exact ⟨_, _, rfl, ⟨_, _, rfl⟩, Sb.out.more (by omega) (by omega)⟩
    · skip
      go_wp2_with fail
      refine (pick_t w0 _ p (C + 1) vb bs 4 4 rfl Sa.out.o.rb (by omega) (by decide) (by decide)).mono ?_
      rintro e wb ⟨xwb, rfl, hxwb, hrwb, hgwb⟩
      have Sb := Lib.hid (Sa.out.step hrwb hgwb)
      clear hrwb hgwb
      go_wp2_with fail
      refine (pick_t w0 _ p (C + 1 + 1) vb bs 4 4 rfl Sb.out.o.rb (by omega) (by decide) (by decide)).mono ?_
      rintro e wc ⟨xwc, rfl, hxwc, hrwc, hgwc⟩
      have Sc := Lib.hid (Sb.out.step hrwc hgwc)
      clear hrwc hgwc
      go_wp2_with (at_builtin; go_must (refine wl_appendLF elCode rfl _ _ rfl w.heap.size _ _ _ rfl Sc.out.o.own _ 1 _ [.int .i64 (1), .int .i64 (xwb), .int .i64 (1 + (xwc : Int)), .int .i64 (0)] rfl rfl rfl rfl (by decide) (by have := Sc.out.o.len; omega) Sc.out.o.at_.size ?_); intro v' wq1 hq hgq _; obtain ⟨cs1, g1, o1, c1, rfl, hpos1, hn1, hS1⟩ := Sc.out.appQ (t' := 0) (ds := [⟨1, xwb, 1 + (xwc : Int), 0⟩]) (M := 1) hq hgq (by simp) (by simp) (fun h => h.plain (plainQ1 hxwb (by omega))); have HN1 := Lib.hid (show cs1.length = _ + 1 from hn1); clear hn1; have Sd := Lib.hid hS1; have hln1 := hS1.o.len; clear hq hgq hS1)
      go_meet
      case rel => exact ⟨_, _, rfl, ⟨_, _, rfl⟩, Sd.out.more (by omega) (by omega)⟩
    · have hb0 : ((xwa : Int) == 0) = false := by simp; omega
      have hb1 : ((xwa : Int) == 1) = false := by simp; omega
      have hb2 : ((xwa : Int) == 2) = false := by simp; omega
      go_wp2
      go_meet
      case rel => exact ⟨_, _, rfl, ⟨_, _, rfl⟩, Sa.out.more (by omega) (by omega)⟩
  case rest =>
  obtain ⟨v1, cs1, rfl, ⟨A1, c1, rfl⟩, hS1⟩ := hcut
  have S1 := Lib.hid hS1
  have hl1 := hS1.o.len
  clear hS1 Sa
  go_wp2_with fail
  refine (pick_t w0 _ p (C + 3) vb bs 3 3 rfl S1.out.o.rb (by omega) (by decide) (by decide)).mono ?_
  rintro e wb ⟨xwb, rfl, hxwb, hrwb, hgwb⟩
  have S2 := Lib.hid (S1.out.step hrwb hgwb)
  clear hrwb hgwb
  clear S1
  obtain ⟨tot, Ht⟩ : ∃ tot : Nat, Hid (1 + xwb = tot) := ⟨_, Lib.hid rfl⟩
  have ht3 : tot ≤ 3 := by have := Ht.out; omega
  go_upto_block 1 with fail
  go_cut [5] (fun vv wx => ∃ (v : Value) (cs : List Cd), vv = v ∧ FormP v cs ∧ OutQ 0 0 w0 w p vb bs (C + 4 + 3 * 341185) (3 + 3 * 67860) v cs wx ∧ cs.length ≤ 39)
  case first =>
    go_wp2_with fail
    go_loopg [5, 6] tot (fun gk vv kk wr => ∃ (v : Value) (cs : List Cd), gk ≤ tot ∧ kk = .int .i64 (gk : Int) ∧ vv = v ∧ FormP v cs ∧ OutQ 0 0 w0 w p vb bs (C + 4 + (tot - gk) * 341185) (3 + (tot - gk) * 67860) v cs wr ∧ cs.length ≤ 39)
    case atStart =>
      exact ⟨_, cs1, Nat.le_refl _, by rw [← Ht.out]; go_num, rfl, ⟨_, _, rfl⟩, S2.out.more (by omega) (by omega), by omega⟩
    case round =>
      obtain ⟨v, cs, hgk, rfl, rfl, ⟨A, c, rfl⟩, hout, hl39⟩ := hrel
      have S := Lib.hid hout
      have hlen := hout.o.len
      clear hout S2
      by_cases hg0 : gk = 0
      · subst hg0
        go_wp2
        go_meet
        case rel => exact ⟨_, cs, rfl, ⟨_, _, rfl⟩, S.out.more (by omega) (by omega), hl39⟩
      go_wp2_with fail
      refine (blockQ_any w0 p vb bs _ (C + 4 + (tot - gk) * 341185) _ S.out.o.rb (by omega) (by omega) (by omega)).mono ?_
      rintro e wr2 ⟨vr, csr, rfl, hor, ⟨gr, or1, cr, rfl⟩, hmr, hlb⟩
      have HMR := Lib.hid hmr
      have HLB := Lib.hid hlb
      clear hmr hlb
      have T := Lib.hid (S.out.step hor.rb hor.at_)
      have R := Lib.hid hor
      have hlr := hor.len
      clear hor S
      go_wp2_with (at_builtin; refine wl_appendF elCode rfl _ _ rfl w.heap.size _ _ _ rfl T.out.o.own gr or1 csr.length _ (csr.flatMap cdCells) rfl (flat4 _) (fun j u hu => (R.out.own.cell j (by have := (List.getElem?_eq_some_iff.1 hu).1; rw [flat4] at this; exact this)).trans hu) (fun u hu => (List.all_eq_true.1 (one_cells _)) u hu) (by omega) (by omega) T.out.o.at_.size ?_; intro v' wq hq hgq _; obtain ⟨cs5, A5, c5, rfl, hn5, hS5⟩ := T.out.appA (t' := 0) (M := 67860) hq hgq hlr (fun h => h.app HMR.out); have HN5 := Lib.hid hn5; clear hn5; have S5 := Lib.hid hS5; have hl5 := hS5.o.len; clear hq hgq hS5)
      all_goals first
        | (go_meet; case rel => exact ⟨_, cs5, rfl, ⟨_, _, rfl⟩, S5.out.more (by omega) (by omega), by have := HN5.out; have := HLB.out; omega⟩)
        | (go_roundg (gk - 1); (case measure => omega); case rel => exact ⟨_, cs5, by omega, by rw [show ((gk - 1 : Nat) : Int) = (gk : Int) - 1 by omega], rfl, ⟨_, _, rfl⟩, S5.out.more (by omega) (by omega), by have := HN5.out; have := HLB.out; omega⟩)
  case rest =>
  obtain ⟨v3, cs3, rfl, ⟨A3, c3, rfl⟩, hS3, hl39⟩ := hcut
  have S3 := Lib.hid hS3
  have hl3 := hS3.o.len
  clear hS3 S2 hl1
  go_upto_region 14 with fail
  go_cut [60] (fun bb wx => ∃ Bo : Bool, bb = .bool Bo ∧ (Bo = true → cs3.length < 37) ∧ OutQ 0 0 w0 w p vb bs (C + 5 + 3 * 341185) (3 + 3 * 67860) (.slice A3 cs3.length c3) cs3 wx)
  case first =>
    go_wp2_with fail
    refine (odd_any w0 _ p (C + 4 + 3 * 341185) vb bs 3 3 rfl S3.out.o.rb (by omega) (by decide)).mono ?_
    rintro e w5 ⟨B, rfl, hr5, hg5⟩
    have S4 := Lib.hid (S3.out.step hr5 hg5)
    clear hr5 hg5
    cases B
    · go_wp2
      go_meet
      case rel => exact ⟨_, rfl, (by intro h; first | omega | (exfalso; simp at h; omega) | (exfalso; simp_all)), S4.out.more (by omega) (by omega)⟩
    · by_cases hlt : (cs3.length : Int) < 37
      · go_wp2
        go_meet
        case rel => exact ⟨_, rfl, (by intro h; first | omega | (exfalso; simp at h; omega) | (exfalso; simp_all)), S4.out.more (by omega) (by omega)⟩
      · go_wp2
        go_meet
        case rel => exact ⟨_, rfl, (by intro h; first | omega | (exfalso; simp at h; omega) | (exfalso; simp_all)), S4.out.more (by omega) (by omega)⟩
  case rest =>
  obtain ⟨Bo, rfl, hbo, hS4⟩ := hcut
  have S4 := Lib.hid hS4
  clear hS4 S3
  go_upto_if 60 with fail
  go_cut [5] (fun vv wx => ∃ (v : Value) (cs : List Cd), vv = v ∧ FormP v cs ∧ OutQ 0 0 w0 w p vb bs (C + 6 + 3 * 341185) (5 + 3 * 67860) v cs wx ∧ cs.length ≤ 40)
  case first =>
    cases Bo
    · go_wp2
      go_meet
      case rel => exact ⟨_, cs3, rfl, ⟨_, _, rfl⟩, S4.out.more (by omega) (by omega), by omega⟩
    · skip
      go_wp2_with fail
      refine (pick_t w0 _ p (C + 5 + 3 * 341185) vb bs 4 4 rfl S4.out.o.rb (by omega) (by decide) (by decide)).mono ?_
      rintro e wd ⟨xwd, rfl, hxwd, hrwd, hgwd⟩
      have S5 := Lib.hid (S4.out.step hrwd hgwd)
      clear hrwd hgwd
      go_wp2_with (at_builtin; go_must (refine wl_appendLF elCode rfl _ _ rfl w.heap.size _ _ _ rfl S5.out.o.own _ 2 _ [.int .i64 (2), .int .i64 (2), .int .i64 (0), .int .i64 (0), .int .i64 (9), .int .i64 (xwd), .int .i64 (2), .int .i64 (0)] rfl rfl rfl rfl (by decide) (by have := S5.out.o.len; omega) S5.out.o.at_.size ?_); intro v' wq7 hq hgq _; obtain ⟨cs7, g7, o7, c7, rfl, hpos7, hn7, hS7⟩ := S5.out.appQ (t' := 0) (ds := [⟨2, 2, 0, 0⟩, ⟨9, xwd, 2, 0⟩]) (M := 2) hq hgq (by simp) (by simp) (fun h => h.plain2 (plainQ2 (z := 2) (by decide)) (plainQ3 (x := 2) (by decide) hxwd (by decide))); have HN7 := Lib.hid (show cs7.length = _ + 2 from hn7); clear hn7; have S6 := Lib.hid hS7; have hln7 := hS7.o.len; clear hq hgq hS7)
      go_meet
      case rel => exact ⟨_, cs7, rfl, ⟨_, _, rfl⟩, S6.out.more (by omega) (by omega), by have := HN7.out; have := hbo (by trivial); omega⟩
  case rest =>
  obtain ⟨v6, cs6, rfl, ⟨A6, c6, rfl⟩, hS6, hl40⟩ := hcut
  have S6 := Lib.hid hS6
  have hl6 := hS6.o.len
  clear hS6 S4 hl3
  go_upto_region 16 with fail
  go_cut [75] (fun bb wx => ∃ Bo : Bool, bb = .bool Bo ∧ Bo = false ∧ OutQ 0 0 w0 w p vb bs (C + 7 + 3 * 341185) (5 + 3 * 67860) (.slice A6 cs6.length c6) cs6 wx)
  case first =>
    by_cases hpos : (cs6.length : Int) > 0
    · go_wp2_with fail
      refine (odd_0 w0 _ p (C + 6 + 3 * 341185) vb bs S6.out.o.rb).mono ?_
      rintro e w5 ⟨rfl, hr5, hg5⟩
      have S7 := Lib.hid (S6.out.step hr5 hg5)
      clear hr5 hg5
      go_wp2
      go_meet
      case rel => exact ⟨false, rfl, rfl, S7.out.more (by omega) (by omega)⟩
    · go_wp2
      go_meet
      case rel => exact ⟨false, rfl, rfl, S6.out.more (by omega) (by omega)⟩
  case rest =>
  obtain ⟨Bo, rfl, hBo, hS7⟩ := hcut
  have S7 := Lib.hid hS7
  clear hS7 S6
  subst hBo
  go_wp2
  go_ret
  exact ⟨_, cs6, rfl, S7.out.o.more (by omega) (by omega), S7.out.mid, by omega⟩

end Go.Proofs.Ytmhaaihgepldhaa

namespace Go.Proofs.Ytmhaaihgepldhaa
open Go.RowKit

theorem RowsX.chg {P : Nat → Prop} {w w' : World} {B n : Nat} {q : Value} {S : Nat → List Int} {vs : List Value} (h : RowsX w B q n S vs) (hc : Chg P w w') (hP : ∀ b, P b → ∃ cur e, w.heap[b]? = some (.cells cur e (0, 0)) ∧ e ≠ 3 ∧ e ≠ 53) : RowsX w' B q n S vs := by
  refine ⟨⟨h.o.1.chg hc fun g hg hp => ?_, fun j hj => ?_⟩, h.ap⟩
  · obtain ⟨cur, e, h1, _, h3⟩ := hP g hp
    exact h.o.1.ne_heap h1 (fun e => h3 e.symm) g hg rfl
  · obtain ⟨r, h1, h2⟩ := h.o.2 j hj
    refine ⟨r, h1, h2.chg hc fun g hg hp => ?_⟩
    obtain ⟨cur, e, h3, h4, _⟩ := hP g hp
    exact h2.ne_heap h3 (fun e => h4 e.symm) g hg rfl
theorem RowsX.congr {w : World} {B n : Nat} {q : Value} {S S' : Nat → List Int} {vs : List Value} (h : RowsX w B q n S vs) (hs : ∀ j, j < n → S j = S' j) : RowsX w B q n S' vs :=
  ⟨⟨h.o.1, fun j hj => by rw [← hs j hj]; exact h.o.2 j hj⟩, h.ap⟩
theorem RowsX.less {w : World} {B B' n : Nat} {q : Value} {S : Nat → List Int} {vs : List Value} (h : RowsX w B q n S vs) (hB : B' ≤ B) : RowsX w B' q n S vs :=
  ⟨⟨h.o.1.less hB, fun j hj => let ⟨r, a, b⟩ := h.o.2 j hj; ⟨r, a, b.less hB⟩⟩, h.ap⟩
/-- The first row is written anew. -/
theorem RowsX.set0 {wx wy : World} {B n g off c : Nat} {S : Nat → List Int} {vs : List Value} {r0 v' : Value} {ys : List Int} (h : RowsX wx B (.slice (some ⟨g, off, none⟩) n c) n S vs) (h0 : vs[0]? = some r0) (hg : wx.grownBy wy r0.ownBlock) (hv : OwnO wy B 3 1 v' ys.length (ys.map (.int .i64))) :
    RowsO (wy.setCell ⟨g, off, none⟩ v') B (.slice (some ⟨g, off, none⟩) n c) n (fun j => if j = 0 then ys else S j) (vs.set 0 v') := by
  have hl : vs.length = n := by have := h.o.1.1; omega
  have hn : 0 < n := by have := (List.getElem?_eq_some_iff.1 h0).1; omega
  obtain ⟨ra, e1, own0⟩ := h.o.2 0 hn
  rw [h0] at e1
  injection e1 with e1
  subst e1
  have ho := h.o.1.kept hg (fun k hk e => h.o.1.ne own0 (by decide) k hk e)
  have hs := ho.stored 0 v'
  rw [Nat.add_zero] at hs
  have hcs : Chg (fun b => b = g) wy (wy.setCell ⟨g, off, none⟩ v') := Chg.of_set wy g _ _ rfl
  have hgo : (Value.slice (some ⟨g, off, none⟩) n c).ownBlock = some g := rfl
  refine ⟨hs, fun j hj => ?_⟩
  by_cases hj0 : j = 0
  · subst hj0
    refine ⟨v', by rw [List.getElem?_set_self (by omega)], ?_⟩
    show OwnO _ _ _ _ _ ys.length (ys.map (.int .i64))
    refine hv.chg hcs fun k hk e => ?_
    subst e
    exact hv.ne ho (by decide) k hk hgo.symm
  · obtain ⟨r, a, b⟩ := h.o.2 j hj
    refine ⟨r, by rw [List.getElem?_set_ne (by omega)]; exact a, ?_⟩
    show OwnO _ _ _ _ _ (if j = 0 then ys else S j).length ((if j = 0 then ys else S j).map (.int .i64))
    rw [if_neg hj0]
    have b2 := b.kept hg (fun k hk e => h.ap j r0 r k (by omega) h0 a e.symm hk)
    refine b2.chg hcs fun k hk e => ?_
    subst e
    exact b2.ne ho (by decide) k hk hgo.symm

/-- A graph under way, in blocks of the draw's own. -/
structure OutG (w0 w : World) (p : Nat) (vb : Value) (bs : List Int) (C : Nat) (q : Value) (n : Nat) (S : Nat → List Int) (vs : List Value) (wx : World) : Prop where
  rb : Rb w0 wx p vb bs C
  at_ : OnlyAt p w wx
  rows : RowsX wx w.heap.size q n S vs
  len : ∀ j, j < n → (S j).length ≤ 8
  w00 : w0.heap.size ≤ w.heap.size
section
variable {w0 w wx wy : World} {p C D n : Nat} {q : Value} {vb : Value} {bs : List Int} {S : Nat → List Int} {vs : List Value}
theorem rb_kind (h : Rb w0 wx p vb bs C) : ∀ b, b = p → ∃ cur e, wx.heap[b]? = some (.cells cur e (0, 0)) ∧ e ≠ 3 ∧ e ≠ 53 := by
  rintro b rfl
  obtain ⟨cur, hc⟩ := h.cell
  exact ⟨cur, _, hc, by decide, by decide⟩
theorem OutG.step (h : OutG w0 w p vb bs C q n S vs wx) (hr : Rb w0 wy p vb bs D) (hg : OnlyAt p wx wy) : OutG w0 w p vb bs D q n S vs wy :=
  ⟨hr, h.at_.trans hg, h.rows.chg hg (rb_kind h.rb), h.len, h.w00⟩
theorem OutG.more (h : OutG w0 w p vb bs C q n S vs wx) (hD : C ≤ D) : OutG w0 w p vb bs D q n S vs wx := ⟨h.rb.more hD, h.at_, h.rows, h.len, h.w00⟩
theorem OutG.start {w1 : World} (hr : Rb w0 w1 p vb bs C) (hg : OnlyAt p w w1) (h00 : w0.heap.size ≤ w.heap.size) : OutG w0 w p vb bs C (.slice (some ⟨w1.heap.size, 0, none⟩) 0 0) 0 (fun _ => []) [] (w1.alloc (.cells #[] 53)) :=
  ⟨hr.keep (by exact (by repeat (first | assumption | exact Pure.refl _ | refine Pure.drewN ?_ _ | refine Pure.drew ?_ | refine Pure.alloc ?_ _ | refine Pure.setCell ?_ (by simp <;> omega) _))), hg.trans (Chg.of_pure (by exact (by repeat (first | assumption | exact Pure.refl _ | refine Pure.drewN ?_ _ | refine Pure.drew ?_ | refine Pure.alloc ?_ _ | refine Pure.setCell ?_ (by simp <;> omega) _)))), (RowsX.start w1).less hg.size, fun j hj => absurd hj (by omega), h00⟩
theorem OutG.push {L : Nat} {v q' : Value} {xs : List Int} {wr wq : World} (h : OutG w0 w p vb bs C q n S vs wr) (m : OutM w0 wr p vb bs D L v xs wy) (hL : L ≤ 8) (hq : OwnO wq w.heap.size 53 1 q' (n + 1) (vs ++ [v])) (hg : wy.grownBy wq q.ownBlock) :
    OutG w0 w p vb bs D q' (n + 1) (fun i => if i = n then xs else S i) (vs ++ [v]) wq := by
  have hR := (h.rows.chg m.at_ (rb_kind h.rb)).congr (S' := fun i => if i = n then xs else S i) (fun j hj => (if_neg (by omega)).symm)
  have hc : Chg (fun k => q.ownBlock = some k) wy wq := Chg.of_grown hg (fun k hk => hk)
  have hlo : ∀ k, q.ownBlock = some k → w.heap.size ≤ k := fun k hk => (hR.o.1.lt k hk).1
  refine ⟨m.rb.chg hc (fun k hk => Nat.le_trans h.w00 (hlo k hk)) (fun e => ?_), (h.at_.trans m.at_).trans' hc (fun i hi e => by have := hlo i e; omega), hR.push wr.heap.size h.rows.low ?_ hq hg h.at_.size, fun j hj => ?_, h.w00⟩
  · obtain ⟨cur, hcc⟩ := m.rb.cell
    exact hR.o.1.ne_heap hcc (by decide) p e rfl
  · rw [if_pos rfl]; exact m.own
  · have := m.len
    by_cases e : j = n
    · simp only [if_pos e]; omega
    · simp only [if_neg e]; exact h.len j (by omega)
end
theorem gRow_len (cs : List Cd) (j : Nat) : (gRow cs j).length ≤ 8 := by
  unfold gRow succs
  simp only []
  repeat' split
  all_goals simp

def GraphP (w0 w : World) (p : Nat) (vb : Value) (bs : List Int) (C : Nat) (e : Ending) (w' : World) : Prop :=
  ∃ A c n S vs, e = .returned (.slice A n c) ∧ RowsO w' w.heap.size (.slice A n c) n S vs ∧ 1 ≤ n ∧ n ≤ 65 ∧ Rb w0 w' p vb bs C ∧ OnlyAt p w w'
theorem OutG.fin {w0 w wx : World} {p C n : Nat} {q : Value} {vb : Value} {bs : List Int} {S : Nat → List Int} {vs : List Value} (h : OutG w0 w p vb bs C q n S vs wx) (h1 : 1 ≤ n) (h2 : n ≤ 65) : GraphP w0 w p vb bs C (.returned q) wx := by
  obtain ⟨A, c, rfl⟩ := h.rows.o.1.form
  exact ⟨A, c, n, S, vs, rfl, h.rows.o, h1, h2, h.rb, h.at_⟩
theorem RowsO.chg {P : Nat → Prop} {w w' : World} {B n : Nat} {q : Value} {S : Nat → List Int} {vs : List Value} (h : RowsO w B q n S vs) (hc : Chg P w w') (hP : ∀ b, P b → ∃ cur e, w.heap[b]? = some (.cells cur e (0, 0)) ∧ e ≠ 3 ∧ e ≠ 53) : RowsO w' B q n S vs := by
  refine ⟨h.1.chg hc fun g hg hp => ?_, fun j hj => ?_⟩
  · obtain ⟨cur, e, h1, _, h3⟩ := hP g hp
    exact h.1.ne_heap h1 (fun e => h3 e.symm) g hg rfl
  · obtain ⟨r, h1, h2⟩ := h.2 j hj
    refine ⟨r, h1, h2.chg hc fun g hg hp => ?_⟩
    obtain ⟨cur, e, h3, h4, _⟩ := hP g hp
    exact h2.ne_heap h3 (fun e => h4 e.symm) g hg rfl
theorem OutG.fin0 {w0 w wx wy : World} {p C n g off c : Nat} {vb : Value} {bs : List Int} {S : Nat → List Int} {vs : List Value} {r0 v' : Value} {ys : List Int} (h : OutG w0 w p vb bs C (.slice (some ⟨g, off, none⟩) n c) n S vs wx) (h1 : 1 ≤ n) (h2 : n ≤ 65) (h0 : vs[0]? = some r0) (hg : wx.grownBy wy r0.ownBlock) (hv : OwnO wy w.heap.size 3 1 v' ys.length (ys.map (.int .i64))) :
    GraphP w0 w p vb bs C (.returned (.slice (some ⟨g, off, none⟩) n c)) (wy.setCell ⟨g, off, none⟩ v') := by
  obtain ⟨ra, e1, own0⟩ := h.rows.o.2 0 (by omega)
  rw [h0] at e1
  injection e1 with e1
  subst e1
  have hc : Chg (fun k => r0.ownBlock = some k ∨ k = g) wx (wy.setCell ⟨g, off, none⟩ v') :=
    ((Chg.of_grown hg (fun k hk => hk)).mono fun k hk => .inl hk).trans ((Chg.of_set wy g off v' (S := fun k => k = g) rfl).mono fun k hk => .inr hk)
  have hlo : ∀ k, (r0.ownBlock = some k ∨ k = g) → w.heap.size ≤ k := by
    rintro k (hk | rfl)
    · exact (own0.lt k hk).1
    · exact (h.rows.o.1.lt k rfl).1
  refine ⟨_, _, _, _, _, rfl, h.rows.set0 h0 hg hv, h1, h2, h.rb.chg hc (fun k hk => Nat.le_trans h.w00 (hlo k hk)) ?_, h.at_.trans' hc (fun i hi e => by have := hlo i e; omega)⟩
  obtain ⟨cur, hcc⟩ := h.rb.cell
  rintro (e | e)
  · exact own0.ne_heap hcc (by decide) p e rfl
  · exact h.rows.o.1.ne_heap hcc (by decide) g rfl e.symm

set_option maxHeartbeats 8000000 in
set_option maxRecDepth 100000 in
theorem graph_any (w0 w : World) (p C n : Nat) (vb : Value) (bs : List Int) (N : Int) (hN : N = n) (hn : n ≤ 1048576) (h : Rb w0 w p vb bs C) (hc : C ≤ 1000000) :
    Calls Try.prog 59 #[.pointer (some ⟨p, 0, none⟩), .int .i64 N] w (GraphP w0 w p vb bs (C + 2001000)) := by
  have H := Lib.hid h
  have HN := Lib.hid hN
  have h00 := h.pure.size
  clear h hN
  go_enter Try.func59, Try.ntmps59
  go_wp2_with fail
  refine (pick_t w0 _ p C vb bs 8 8 rfl H.out (by omega) (by decide) (by decide)).mono ?_
  rintro e w1 ⟨x1, rfl, hx1, hr1, hg1⟩
  have G0 := Lib.hid (OutG.start hr1 hg1 h00)
  obtain ⟨sz, hsz⟩ : ∃ sz : Nat, (1 : Int) + x1 = sz := ⟨1 + x1, by omega⟩
  have hsz8 : 1 ≤ sz ∧ sz ≤ 8 := by omega
  clear hr1 hg1
  go_wp2_with fail
  go_loopg [7, 6, 8, 9] sz (fun gk aa qq rr bb wr => ∃ (k : Nat) (q : Value) (S : Nat → List Int) (vs : List Value), gk + k = sz ∧ aa = .int .i64 k ∧ qq = q ∧ (∃ A c, q = .slice A k c) ∧ OutG w0 w p vb bs (C + 1 + 8 * k) q k S vs wr)
  case atStart => exact ⟨0, _, _, _, rfl, rfl, rfl, ⟨_, _, rfl⟩, G0.out⟩
  case round =>
    obtain ⟨k, q, S, vs, hgk, rfl, rfl, ⟨A, c, rfl⟩, hG⟩ := hrel
    have G := Lib.hid hG
    have Hgk := Lib.hid hgk
    have hks : k ≤ sz := by omega
    clear hG G0 hgk
    by_cases hlt : k < sz
    · have M0 := Lib.hid (OutM.start G.out.rb (Chg.refl _ wr) (Nat.le_trans G.out.w00 G.out.at_.size))
      go_wp2_with fail
      go_loopg [9, 8] sz (fun gj bb rr wy => ∃ (j : Nat) (v : Value) (xs : List Int), gj + j = sz ∧ bb = .int .i64 j ∧ rr = v ∧ (∃ A c, v = .slice A xs.length c) ∧ OutM w0 wr p vb bs (C + 1 + 8 * k + j) j v xs wy)
      case atStart => exact ⟨0, _, [], rfl, rfl, rfl, ⟨_, _, rfl⟩, M0.out⟩
      case round =>
        obtain ⟨j, v, xs, hgj, rfl, rfl, ⟨A2, c2, rfl⟩, hM⟩ := hrel
        have M := Lib.hid hM
        have Hgj := Lib.hid hgj
        have hjs : j ≤ sz := by omega
        have hxl := hM.len
        clear hM M0 hgj
        by_cases hlj : j < sz
        · go_wp2_with fail
          refine (pick_t w0 _ p (C + 1 + 8 * k + j) vb bs 3 3 rfl M.out.rb (by omega) (by decide) (by decide)).mono ?_
          rintro e w3 ⟨x3, rfl, hx3, hr3, hg3⟩
          have M1 := Lib.hid (M.out.step hr3 hg3)
          clear hr3 hg3 M
          by_cases hx0 : x3 = 0
          · subst hx0
            go_wp2_with (at_builtin; go_must (refine wl_append1F elInt rfl _ _ rfl _ _ _ _ rfl M1.out.own _ 1 [.int .i64 (j : Int)] rfl rfl rfl rfl (by decide) (by omega) M1.out.at_.size ?_); intro v' wq hq hgq _; obtain ⟨ys, g', o', c', rfl, hyl, hM2⟩ := M1.out.app hq hgq; have M2 := Lib.hid hM2; have HYL := Lib.hid hyl; clear hq hgq hM2 hyl)
            go_roundg (sz - (j + 1))
            case measure => have := Hgj.out; omega
            case rel => exact ⟨j + 1, _, ys, by have := Hgj.out; omega, by go_num, rfl, ⟨_, _, rfl⟩, M2.out.more (D := C + 1 + 8 * k + (j + 1)) (M := j + 1) (by omega) (by omega)⟩
          · have hd : ((x3 : Int) == 0) = false := by rw [beq_eq_false_iff_ne]; omega
            go_wp2
            go_roundg (sz - (j + 1))
            case measure => have := Hgj.out; omega
            case rel => exact ⟨j + 1, _, xs, by have := Hgj.out; omega, by go_num, rfl, ⟨_, _, rfl⟩, M1.out.more (D := C + 1 + 8 * k + (j + 1)) (M := j + 1) (by omega) (by omega)⟩
        · have GR := Lib.hid (G.out.rows.chg M.out.at_ (rb_kind G.out.rb))
          go_wp2_with (at_builtin; go_must (refine wl_append1F elInts rfl _ _ rfl w.heap.size _ _ _ rfl GR.out.o.1 _ 1 [.slice A2 xs.length c2] rfl (by simp) rfl rfl (by decide) (by omega) (G.out.at_.trans M.out.at_).size ?_); intro q' wq hq hgq _; obtain ⟨A9, c9, rfl⟩ := hq.form; have G2 := Lib.hid (G.out.push M.out (by omega) hq hgq); clear hq hgq)
          go_roundg (sz - (k + 1))
          case measure => have := Hgk.out; omega
          case rel => exact ⟨k + 1, _, _, _, by have := Hgk.out; omega, by go_num, rfl, ⟨_, _, rfl⟩, G2.out.more (D := C + 1 + 8 * (k + 1)) (by omega)⟩
    · go_wp2_with fail
      refine (odd_any w0 _ p (C + 1 + 8 * k) vb bs 3 3 rfl G.out.rb (by omega) (by decide)).mono ?_
      rintro e w5 ⟨B, rfl, hr5, hg5⟩
      have G1 := Lib.hid (G.out.step hr5 hg5)
      clear hr5 hg5 G
      go_upto_if 37 with fail
      go_cut [6] (fun qq wx => ∃ (q : Value) (n : Nat) (S : Nat → List Int) (vs : List Value), qq = q ∧ (∃ g off c, q = .slice (some ⟨g, off, none⟩) n c) ∧ 1 ≤ n ∧ n ≤ 41 ∧ OutG w0 w p vb bs (C + 2000200) q n S vs wx)
      case first =>
        cases B
        · obtain ⟨g, off, c', hv, _⟩ := G1.out.rows.o.1.formSome (by omega)
          injection hv with hv _ hcc
          subst hv hcc
          go_wp2
          go_meet
          case rel => exact ⟨_, _, _, _, rfl, ⟨_, _, _, rfl⟩, by omega, by omega, G1.out.more (D := C + 2000200) (by omega)⟩
        · skip
          go_wp2_with fail
          refine (progQ_any w0 _ p (C + 1 + 8 * k + 1) vb bs G1.out.rb (by omega)).mono ?_
          rintro e w6 ⟨v6, cs, rfl, ho6, hmid, hl40⟩
          have O6 := Lib.hid ho6
          have HV := Lib.hid (hmid.valid hl40)
          obtain ⟨A6, c6, rfl⟩ := ho6.own.form
          clear ho6 hmid
          go_wp2_with fail
          refine (sgraphx_ok _ cs _ O6.out.codes HV.out).mono ?_
          rintro e w7 ⟨v7, vs7, rfl, hR7, hp7⟩
          have hat := (G1.out.at_.trans O6.out.at_)
          have G7 : Hid (OutG w0 w p vb bs (C + 1 + 8 * k + 1 + 2000000) v7 (cs.length + 1) (gRow cs) vs7 w7) := Lib.hid ⟨O6.out.rb.keep hp7, hat.trans (Chg.of_pure hp7), hR7.less hat.size, fun j _ => gRow_len cs j, h00⟩
          obtain ⟨g, off, c', rfl, _⟩ := hR7.o.1.formSome (by omega)
          clear hR7 hp7 hat
          go_wp2
          go_meet
          case rel => exact ⟨_, _, _, _, rfl, ⟨_, _, _, rfl⟩, by omega, by omega, G7.out.more (D := C + 2000200) (by omega)⟩
      case rest =>
      obtain ⟨q2, n2, S2, vs2, rfl, ⟨g, off, c2, rfl⟩, hn1, hn41, hG2⟩ := hcut
      have G2 := Lib.hid hG2
      clear hG2 G1
      go_wp2_with fail
      refine (odd_any w0 _ p (C + 2000200) vb bs n N HN.out G2.out.rb (by omega) hn).mono ?_
      rintro e w8 ⟨B2, rfl, hr8, hg8⟩
      have G3 := Lib.hid (G2.out.step hr8 hg8)
      clear hr8 hg8 G2
      cases B2
      · go_wp2
        go_ret
        exact (G3.out.more (D := C + 2001000) (by omega)).fin hn1 (by omega)
      go_wp2_with fail
      refine (pick_t w0 _ p (C + 2000200 + 1) vb bs 3 3 rfl G3.out.rb (by omega) (by decide) (by decide)).mono ?_
      rintro e w9 ⟨x9, rfl, hx9, hr9, hg9⟩
      have G4 := Lib.hid (G3.out.step hr9 hg9)
      clear hr9 hg9 G3
      obtain ⟨r0, hr0, own0⟩ := G4.out.rows.o.2 0 (by omega)
      have hl0 := G4.out.len 0 (by omega)
      have k0 : w9.cell? ⟨g, off, none⟩ = some r0 := by
        have := G4.out.rows.o.1.cell 0 (by omega)
        rw [Nat.add_zero, hr0] at this
        exact this
      have f0 := G4.out.rows.o.1.frozen off
      have HR0 := Lib.hid hr0
      have OWN0 := Lib.hid own0
      obtain ⟨A0, c0, rfl⟩ := own0.form
      obtain ⟨l0, Hl0⟩ : ∃ l0, Hid ((S2 0).length = l0) := ⟨_, Lib.hid rfl⟩
      obtain ⟨xs0, Hxs0⟩ : ∃ xs0, Hid (S2 0 = xs0) := ⟨_, Lib.hid rfl⟩
      have hx3 : x9 = 0 ∨ x9 = 1 ∨ x9 = 2 := by omega
      have HNE := Lib.hid (fun gg hg => G4.out.rows.o.1.ne own0 (by decide) gg hg)
      clear hr0 own0
      rcases hx3 with rfl | rfl | rfl
      · go_wp2_with (at_builtin; go_must (refine wl_append1F elInt rfl _ _ rfl w.heap.size _ _ _ rfl OWN0.out _ 1 [.int .i64 (n2 : Int)] rfl rfl rfl rfl (by decide) (by omega) G4.out.at_.size ?_); intro v' wq hq hgq _; have HQ := Lib.hid hq; have HGQ := Lib.hid hgq; have HOK := Lib.hid (G4.out.rows.o.1.kept hgq HNE.out); obtain ⟨u0, k1⟩ := HOK.out.cellSome 0 (by omega); have f1 := HOK.out.frozen off; rw [Nat.add_zero] at k1; obtain ⟨A5, c5, rfl⟩ := hq.form; clear hq hgq)
        go_ret
        have hq := HQ.out
        exact (G4.out.more (D := C + 2001000) (by omega)).fin0 (ys := S2 0 ++ [(n2 : Int)]) hn1 (by omega) HR0.out HGQ.out (by simpa using hq)
      · go_wp2_with (at_builtin; go_must (refine wl_appendLF elInt rfl _ _ rfl w.heap.size _ _ _ rfl OWN0.out _ 2 _ [.int .i64 0, .int .i64 0] rfl rfl rfl rfl (by decide) (by omega) G4.out.at_.size ?_); intro v' wq hq hgq _; have HQ := Lib.hid hq; have HGQ := Lib.hid hgq; have HOK := Lib.hid (G4.out.rows.o.1.kept hgq HNE.out); obtain ⟨u0, k1⟩ := HOK.out.cellSome 0 (by omega); have f1 := HOK.out.frozen off; rw [Nat.add_zero] at k1; obtain ⟨A5, c5, rfl⟩ := hq.form; clear hq hgq)
        go_ret
        have hq := HQ.out
        exact (G4.out.more (D := C + 2001000) (by omega)).fin0 (ys := S2 0 ++ [0, 0]) hn1 (by omega) HR0.out HGQ.out (by simpa using hq)
      · go_wp2_with (at_make; refine wl_make elInts rfl _ _ rfl w.heap.size _ _ _ _ 65 rfl rfl rfl rfl (by decide) (by decide) G4.out.at_.size ?_; intro w10 hown hp hsz2; have HOWN := Lib.hid hown; have HP := Lib.hid hp; clear hown hp)
        go_ret
        refine ⟨_, _, 65, fun _ => [], _, rfl, ⟨OwnO.of_own HOWN.out, fun j hj => ⟨.slice none 0 0, ?_, rfl, .inl ⟨rfl, rfl⟩⟩⟩, by omega, by omega, (G4.out.rb.keep HP.out).more (by omega), G4.out.at_.trans (Chg.of_pure HP.out)⟩
        rw [zeros_get _ _ _ (by simpa using hj)]
        simp [Nat.mod_one]

end Go.Proofs.Ytmhaaihgepldhaa
