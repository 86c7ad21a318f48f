/- Which programs are valid, where blocks open, and the graph of a program, as the program finds it. No condition. -/
import Derived.Test.YtokdfgodmhekmaaBlocks
import Derived.Test.YtokdfgodmhekmaaICodeV
import Derived.Test.YtokdfgodmhekmaaGraphS
namespace Go.Proofs.Ytokdfgodmhekmaa
open Go.RowKit

set_option maxHeartbeats 1000000 in
set_option maxRecDepth 100000 in
theorem ipv_any (v : Value) (cs : List Cd) (w : World) (h : Codes w v cs) (hsmall : cs.length ≤ 1048576) (B : Bool) (hB : B = true ↔ PValid cs) :
    Calls Try.prog 98 #[v] w fun e w' => e = .returned (.bool B) ∧ Pure w w' := by
  have H := Lib.hid h
  have HB := Lib.hid hB
  obtain ⟨A, c, rfl, hnc, hcm⟩ := h.form
  clear h hB
  have HBF : Hid (¬ PValid cs → false = B) := fun h => by
    cases hb : B
    · rfl
    · exact absurd (HB.out.1 hb) h
  by_cases h40 : 40 < cs.length
  · go_enter Try.func98, Try.ntmps98
    go_wp2
    go_ret
    exact ⟨ret_bool (HBF.out (fun h => by have := h.2.1; omega)), Pure.refl _⟩
  · have h40' : cs.length ≤ 40 := by omega
    clear h40
    go_enter Try.func98, Try.ntmps98
    go_wp2
    go_loopg [13] cs.length (fun gk i wr => ∃ k : Nat, gk + k = cs.length ∧ i = .int .i64 k ∧ Pure w wr ∧ ∀ j, j < k → CdOk (cs.getD j default))
    case atStart => exact ⟨0, rfl, rfl, Pure.refl _, fun j hj => absurd hj (by omega)⟩
    case round =>
      obtain ⟨k, hgk, rfl, hp, hall⟩ := hrel
      have Hgk := Lib.hid hgk
      have Hall := Lib.hid hall
      have hkn : k ≤ cs.length := by omega
      clear hgk hall
      by_cases hlt : k < cs.length
      · obtain ⟨b, o, rfl, hb, hc⟩ := H.out.at_ hlt
        obtain ⟨cd, Hcd⟩ : ∃ cd, Hid (cs.getD k default = cd) := ⟨_, rfl⟩
        have hat := hc.keep hp hb
        rw [Hcd.out] at hat
        obtain ⟨q0, q1, q2, q3⟩ := hat
        clear hc
        have hpA := Lib.hid (Pure.alloc hp (.cells #[.int .i64 cd.op, .int .i64 cd.a, .int .i64 cd.b, .int .i64 cd.c] 61))
        by_cases hok : CdOk cd
        · have Hok := Lib.hid hok; clear hok
          have Hnext : Hid (∀ j, j < k + 1 → CdOk (cs.getD j default)) := fun j hj => by
            by_cases e : j = k
            · rw [e, Hcd.out]; exact Hok.out
            · exact Hall.out j (by omega)
          go_wp2_with fail
          refine (icv_any cd _ true (by simp [Hok.out])).mono ?_
          rintro e w1 ⟨rfl, hp1⟩
          have hp2 := Lib.hid (hpA.out.trans hp1)
          go_wp2
          go_roundg (cs.length - (k + 1))
          case measure => have := Hgk.out; omega
          case rel => exact ⟨k + 1, by have := Hgk.out; omega, by go_num, hp2.out, Hnext.out⟩
        · have Hok := Lib.hid hok; clear hok
          have hbad : ¬ PValid cs := fun h => Hok.out (by rw [← Hcd.out]; exact h.1 _ (cdOk_mem hlt))
          have Hbad := Lib.hid hbad
          clear hbad
          go_wp2_with fail
          refine (icv_any cd _ false (by simp [Hok.out])).mono ?_
          rintro e w1 ⟨rfl, hp1⟩
          have hp2 := Lib.hid (hpA.out.trans hp1)
          go_wp2
          go_ret
          exact ⟨ret_bool (HBF.out Hbad.out), hp2.out⟩
      · have hkl : k = cs.length := by omega
        subst hkl
        have Hcd : Hid (∀ c ∈ cs, CdOk c) := cdOk_all Hall.out
        go_wp2_with fail
        refine (blocks_any _ cs _ (H.out.keep hp) h40').mono ?_
        rintro e w2 ⟨hp2, hm⟩
        have hp3 := Lib.hid (hp.trans hp2)
        cases hs : sscan cs 0 [] with
        | none =>
          rw [hs] at hm
          subst hm
          have Hs := Lib.hid hs
          clear hs
          go_wp2
          go_ret
          exact ⟨ret_bool (HBF.out (fun h => by have := h.2.2; rw [Hs.out] at this; cases this)), hp3.out⟩
        | some st =>
          rw [hs] at hm
          obtain ⟨va, vo, rfl, ht⟩ := hm
          have Hs := Lib.hid hs
          have Ht := Lib.hid ht
          clear hs ht
          obtain ⟨D, HD⟩ : ∃ D, Hid (decide (st.length = 0) = D) := ⟨_, rfl⟩
          rw [HD.out]
          have hDB : D = B := by
            have h1 := HD.out
            have h2 := HB.out
            cases D
            · refine HBF.out fun h => ?_
              have := h.2.2
              rw [Hs.out] at this
              injection this with this
              simp [this] at h1
            · simp at h1
              subst h1
              exact (h2.2 ⟨Hcd.out, h40', Hs.out⟩).symm
          subst hDB
          clear HD
          go_wp2
          go_ret
          exact ⟨rfl, hp3.out⟩

end Go.Proofs.Ytokdfgodmhekmaa
