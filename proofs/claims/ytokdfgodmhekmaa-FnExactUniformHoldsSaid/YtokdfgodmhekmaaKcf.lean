/- The function that looks on in the program's UniformHolds: where the lanes agree it changes nothing. The program's run in lockstep with the look of UniformHolds, and its UniformHolds: it holds. No condition. -/
import Derived.Test.YtokdfgodmhekmaaKbd
import Derived.Test.YtokdfgodmhekmaaKbj
import Derived.Test.YtokdfgodmhekmaaKcd
import Derived.Test.YtokdfgodmhekmaaKce

namespace Go.Proofs.Ytokdfgodmhekmaa
open Go.RowKit

theorem setCell_id {w : World} {b i : Nat} {v : Value} {cur : Array Value} {t : TypeId} {f : Nat × Nat} (h : w.heap[b]? = some (.cells cur t f)) (hv : cur[i]? = some v) : w.setCell ⟨b, i, none⟩ v = w := by
  have hh : (w.setCell ⟨b, i, none⟩ v).heap = w.heap := by
    apply Array.ext_getElem?
    intro j
    by_cases e : j = b
    · subst e
      unfold World.setCell
      simp only [Array.getElem?_modify, h, if_pos, Option.map_some]
      obtain ⟨hi, hv'⟩ := Array.getElem?_eq_some_iff.1 hv
      have e : cur.setIfInBounds i v = cur := by
        subst hv'
        apply Array.ext_getElem?
        intro q
        rw [Array.getElem?_setIfInBounds]
        split
        · rename_i e
          subst e
          exact (Array.getElem?_eq_getElem hi).symm
        · rfl
      simp [e]
    · unfold World.setCell
      simp only [Array.getElem?_modify]
      rw [if_neg (fun e2 => e e2.symm)]
  cases w
  unfold World.setCell at hh ⊢
  simp only at hh ⊢
  rw [hh]

def lookV (gh gs : Nat) : Value := .func (.func 77) #[] #[.pointer (some ⟨gh, 0, none⟩), .pointer (some ⟨gs, 0, none⟩)]

set_option maxHeartbeats 4000000 in
set_option maxRecDepth 100000 in
theorem ilook_any (o : RMo) (gh gs nn c_ : Nat) (As : Option Addr) (sets : Nat → Nat) (w : World) (R : Nat → Nat → Int) (M : Nat → Int) (k mask : Nat) (hr : RM o w R M) (hh : w.heap[gh]? = some (.cells #[.bool true] 4 (0, 0))) (hs : w.cell? ⟨gs, 0, none⟩ = some (.slice As nn c_))
    (hcs : Cells w (.slice As nn c_) nn 1 (fun j => .int .i64 (sets j : Nat))) (hk : k < nn) (hu : sets k < 16) (hmask : mask < 2 ^ o.n) (he : Eqv R mask (sets k)) :
    Calls Try.prog 77 #[.int .i64 (k : Nat), .int .i64 (mask : Nat), o.vr, .pointer (some ⟨gh, 0, none⟩), .pointer (some ⟨gs, 0, none⟩)] w fun e w' => e = .returned (.tuple #[]) ∧ Pure w w' := by
  have H := Lib.hid hr
  have HH := Lib.hid hh
  have HS := Lib.hid hs
  have HE := Lib.hid he
  have HM := Lib.hid hmask
  have hn8 := hr.n8
  have hcr := hr.cr1
  have hcr2 := hr.cr2
  have hm256 : mask < 256 := Nat.lt_of_lt_of_le hmask (powI hn8)
  obtain ⟨A', c', hv', hc1, hc2, hc3⟩ := hcs
  injection hv' with e1 e2 e3
  subst e1 e3
  obtain ⟨bs, os, rfl, hbs, hcc⟩ := hc3 (by omega)
  have HSC : Hid (w.cell? ⟨bs, os + k, none⟩ = some (.int .i64 (sets k : Nat))) := Lib.hid (hcc k (by omega))
  obtain ⟨u, Hu⟩ : ∃ u, Hid (sets k = u) := ⟨_, Lib.hid rfl⟩
  rw [Hu.out] at HSC HE hu
  clear hr hh hs he hmask hcc hc3
  unfold RMo.vr
  go_enter Try.func77, Try.ntmps77
  go_wp2_with fail
  refine (ilanes_any mask hm256 _).mono ?_
  rintro e w1 ⟨vL, rfl, hvL, hp1⟩
  have HVL := Lib.hid hvL
  have HP1 := Lib.hid hp1
  obtain ⟨Av, cv, rfl⟩ := hvL.form
  have hl8 := lanesL_len mask 8
  have HMEM : Hid (∀ x ∈ lanesL mask 8, mask.testBit x = true ∧ x < o.n) := Lib.hid (fun x hx => by
    have hb := (lanesL_mem hx).2
    exact ⟨hb, Nat.lt_of_not_le (fun hn => by rw [testBit_hi HM.out hn] at hb; cases hb)⟩)
  obtain ⟨L, HL⟩ : ∃ L, Hid (lanesL mask 8 = L) := ⟨_, rfl⟩
  rw [HL.out] at HVL hl8 HMEM
  rw [HL.out]
  clear hvL hp1
  go_wp2_with fail
  go_loopg [14] 4 (fun gk i wr => ∃ r : Nat, gk + r = 4 ∧ i = .int .i64 r ∧ Pure w1 wr)
  case atStart => exact ⟨0, rfl, rfl, Pure.refl _⟩
  case round =>
    obtain ⟨r, hgk, rfl, hp⟩ := hrel
    have Hgk := Lib.hid hgk
    have HP := Lib.hid hp
    have hr4 : r ≤ 4 := by omega
    clear hgk hp
    by_cases hlt : r < 4
    · have hr0 : (0 : Int) ≤ (r : Int) := by omega
      have hrI : (r : Int) < 4 := by omega
      obtain ⟨wo, rfl⟩ : ∃ wo, wo = wr := ⟨_, rfl⟩
      go_wp2_with fail
      go_loopg [19] L.length (fun g2 i wr => ∃ j : Nat, g2 + j = L.length ∧ i = .int .i64 j ∧ Pure w1 wr)
      case atStart => exact ⟨0, rfl, rfl, by exact HP.out.trans (by repeat (first | assumption | exact Pure.refl _ | refine Pure.drewN ?_ _ | refine Pure.drew ?_ | refine Pure.alloc ?_ _ | refine Pure.setCell ?_ (by simp <;> omega) _))⟩
      case round =>
        obtain ⟨j, hg2, rfl, hp2⟩ := hrel
        have Hg2 := Lib.hid hg2
        have HP2 := Lib.hid hp2
        have HPW := Lib.hid (HP1.out.trans hp2)
        have hjn : j ≤ L.length := by omega
        clear hg2 hp2
        by_cases hlt2 : j < L.length
        · have hvr := HVL.out.pure HP2.out
          obtain ⟨g, off, c', hv', h1, h2, h3, h4⟩ := hvr.formSome (by omega)
          injection hv' with e1 e2 e3
          subst e1 e3
          obtain ⟨x, hx⟩ : ∃ x, L[j]? = some x := ⟨L[j], List.getElem?_eq_getElem hlt2⟩
          obtain ⟨f, hf⟩ : ∃ f, L[0]? = some f := ⟨L[0], List.getElem?_eq_getElem (by omega)⟩
          obtain ⟨hxb, hxn⟩ := HMEM.out x (List.mem_of_getElem? hx)
          obtain ⟨hfb, hfn⟩ := HMEM.out f (List.mem_of_getElem? hf)
          have q0 := hvr.cell j (by omega)
          have q00 := hvr.cell 0 (by omega)
          rw [List.getElem?_map, hx] at q0
          rw [List.getElem?_map, hf] at q00
          simp only [Option.map_some, Nat.add_zero] at q0 q00
          have p0 := cell_of_row _ _ 0 _ _ _ ((Chg.of_pure (S := fun _ => False) HPW.out).heap HH.out id)
          simp only [List.getElem?_toArray, List.getElem?_cons_zero] at p0
          have f0 := frozen_of_row _ _ 0 _ _ ((Chg.of_pure (S := fun _ => False) HPW.out).heap HH.out id)
          have HID : Hid (wr.setCell ⟨gh, 0, none⟩ (.bool true) = wr) := Lib.hid (setCell_id (i := 0) ((Chg.of_pure (S := fun _ => False) HPW.out).heap HH.out id) rfl)
          have s0 := keepP HPW.out HS.out
          have s1 := keepP HPW.out HSC.out
          have HRr := H.out.pure HPW.out
          have q1 := HRr.outerCell hxn
          have q2 := HRr.outerCell hfn
          unfold RMo.row at q1 q2
          have q3 := HRr.regCell hxn hlt
          have q4 := HRr.regCell hfn hlt
          have hun := digit_nonneg u r
          have hbit := digit_and u r (by omega)
          have hsame : u.testBit r = true → R f r = R x r := fun h => HE.out r h f x hfb hxb
          obtain ⟨E, HEb⟩ : ∃ E, Hid (u.testBit r = E) := ⟨_, Lib.hid rfl⟩
          rw [HEb.out] at hbit hsame
          obtain ⟨X, HX⟩ : ∃ X, Hid (R x r = X) := ⟨_, Lib.hid rfl⟩
          obtain ⟨Y, HY⟩ : ∃ Y, Hid (R f r = Y) := ⟨_, Lib.hid rfl⟩
          rw [HX.out] at q3 hsame
          rw [HY.out] at q4 hsame
          have HSM := Lib.hid hsame
          have HBIT := Lib.hid hbit
          have hj0 : (0 : Int) ≤ (j : Int) := by omega
          have hjI : (j : Int) < (L.length : Int) := by omega
          have hx0 : (0 : Int) ≤ (x : Int) := by omega
          have hxI : (x : Int) < (o.n : Int) := by omega
          have hf0 : (0 : Int) ≤ (f : Int) := by omega
          have hfI : (f : Int) < (o.n : Int) := by omega
          have hk0 : (0 : Int) ≤ (k : Int) := by omega
          have hkI : (k : Int) < (nn : Int) := by omega
          have HLN : Hid (0 < L.length) := Lib.hid (by omega)
          clear hbit hsame hvr h1 h2 h3 h4 hx hf hxb hfb HRr hun
          cases E
          case false =>
            have HB0 : Hid (bits .and .i64 ((u : Int) / 2 ^ r) 1 = 0) := Lib.hid HBIT.out
            go_wp2_with fail
            refine region_heldF (fun w' => w'.cell? ⟨gh, 0, none⟩ = some (.bool true) ∧ w'.cell? ⟨gs, 0, none⟩ = some (.slice (some ⟨bs, os, none⟩) nn c_) ∧ w'.cell? ⟨bs, os + k, none⟩ = some (.int .i64 (u : Nat)) ∧ w'.cell? ⟨o.gr, x, none⟩ = some (.slice (some ⟨o.rows x, 0, none⟩) 4 4) ∧ w'.cell? ⟨o.gr, f, none⟩ = some (.slice (some ⟨o.rows f, 0, none⟩) 4 4) ∧ w'.cell? ⟨o.rows x, r, none⟩ = some (.int .i64 X) ∧ w'.cell? ⟨o.rows f, r, none⟩ = some (.int .i64 Y) ∧ w'.cell? ⟨g, off, none⟩ = some (.int .i64 (f : Nat)))
              (List.range 30) [30] (fun l => List.take 30 l) (fun l => List.drop 30 l) (by kernel_rfl) (by kernel_rfl) (by kernel_rfl) (by kernel_rfl) (fun c a d v w h => by cases d <;> exact h) (by exact ⟨keepP (by repeat (first | assumption | exact Pure.refl _ | refine Pure.drewN ?_ _ | refine Pure.drew ?_ | refine Pure.alloc ?_ _ | refine Pure.setCell ?_ (by simp <;> omega) _)) p0, keepP (by repeat (first | assumption | exact Pure.refl _ | refine Pure.drewN ?_ _ | refine Pure.drew ?_ | refine Pure.alloc ?_ _ | refine Pure.setCell ?_ (by simp <;> omega) _)) s0, keepP (by repeat (first | assumption | exact Pure.refl _ | refine Pure.drewN ?_ _ | refine Pure.drew ?_ | refine Pure.alloc ?_ _ | refine Pure.setCell ?_ (by simp <;> omega) _)) s1, keepP (by repeat (first | assumption | exact Pure.refl _ | refine Pure.drewN ?_ _ | refine Pure.drew ?_ | refine Pure.alloc ?_ _ | refine Pure.setCell ?_ (by simp <;> omega) _)) q1, keepP (by repeat (first | assumption | exact Pure.refl _ | refine Pure.drewN ?_ _ | refine Pure.drew ?_ | refine Pure.alloc ?_ _ | refine Pure.setCell ?_ (by simp <;> omega) _)) q2, keepP (by repeat (first | assumption | exact Pure.refl _ | refine Pure.drewN ?_ _ | refine Pure.drew ?_ | refine Pure.alloc ?_ _ | refine Pure.setCell ?_ (by simp <;> omega) _)) q3, keepP (by repeat (first | assumption | exact Pure.refl _ | refine Pure.drewN ?_ _ | refine Pure.drew ?_ | refine Pure.alloc ?_ _ | refine Pure.setCell ?_ (by simp <;> omega) _)) q4, keepP (by repeat (first | assumption | exact Pure.refl _ | refine Pure.drewN ?_ _ | refine Pure.drew ?_ | refine Pure.alloc ?_ _ | refine Pure.setCell ?_ (by simp <;> omega) _)) q00⟩) ?_
            simp only [List.take_succ_cons, List.take_zero, List.drop_succ_cons, List.drop_zero]
            iterate 30
              first
                | (refine held_no (by exact rfl) ?_)
                | (apply held_of
                   · exact rfl
                   · intro w' hS
                     obtain ⟨s0, s1, s2, s3, s4, s5, s6, s7⟩ := hS
                     go_simp
                     try rw [if_pos HLN.out]
                     try exact rfl)
              try go_simp
              try simp only [HB0.out]
            refine held_nil ?_
            unfold Tail
            go_wp2
            rw [HID.out]
            go_roundg (L.length - (j + 1))
            case measure => have := Hg2.out; omega
            case rel => exact ⟨j + 1, by have := Hg2.out; omega, by go_num, HP2.out.trans (Pure.drew (Pure.refl _))⟩
          case true =>
            have HB0 : Hid (bits .and .i64 ((u : Int) / 2 ^ r) 1 = 1) := Lib.hid HBIT.out
            obtain rfl : Y = X := HSM.out rfl
            go_wp2_with fail
            refine region_heldF (fun w' => w'.cell? ⟨gh, 0, none⟩ = some (.bool true) ∧ w'.cell? ⟨gs, 0, none⟩ = some (.slice (some ⟨bs, os, none⟩) nn c_) ∧ w'.cell? ⟨bs, os + k, none⟩ = some (.int .i64 (u : Nat)) ∧ w'.cell? ⟨o.gr, x, none⟩ = some (.slice (some ⟨o.rows x, 0, none⟩) 4 4) ∧ w'.cell? ⟨o.gr, f, none⟩ = some (.slice (some ⟨o.rows f, 0, none⟩) 4 4) ∧ w'.cell? ⟨o.rows x, r, none⟩ = some (.int .i64 Y) ∧ w'.cell? ⟨o.rows f, r, none⟩ = some (.int .i64 Y) ∧ w'.cell? ⟨g, off, none⟩ = some (.int .i64 (f : Nat)))
              (List.range 30) [30] (fun l => List.take 30 l) (fun l => List.drop 30 l) (by kernel_rfl) (by kernel_rfl) (by kernel_rfl) (by kernel_rfl) (fun c a d v w h => by cases d <;> exact h) (by exact ⟨keepP (by repeat (first | assumption | exact Pure.refl _ | refine Pure.drewN ?_ _ | refine Pure.drew ?_ | refine Pure.alloc ?_ _ | refine Pure.setCell ?_ (by simp <;> omega) _)) p0, keepP (by repeat (first | assumption | exact Pure.refl _ | refine Pure.drewN ?_ _ | refine Pure.drew ?_ | refine Pure.alloc ?_ _ | refine Pure.setCell ?_ (by simp <;> omega) _)) s0, keepP (by repeat (first | assumption | exact Pure.refl _ | refine Pure.drewN ?_ _ | refine Pure.drew ?_ | refine Pure.alloc ?_ _ | refine Pure.setCell ?_ (by simp <;> omega) _)) s1, keepP (by repeat (first | assumption | exact Pure.refl _ | refine Pure.drewN ?_ _ | refine Pure.drew ?_ | refine Pure.alloc ?_ _ | refine Pure.setCell ?_ (by simp <;> omega) _)) q1, keepP (by repeat (first | assumption | exact Pure.refl _ | refine Pure.drewN ?_ _ | refine Pure.drew ?_ | refine Pure.alloc ?_ _ | refine Pure.setCell ?_ (by simp <;> omega) _)) q2, keepP (by repeat (first | assumption | exact Pure.refl _ | refine Pure.drewN ?_ _ | refine Pure.drew ?_ | refine Pure.alloc ?_ _ | refine Pure.setCell ?_ (by simp <;> omega) _)) q3, keepP (by repeat (first | assumption | exact Pure.refl _ | refine Pure.drewN ?_ _ | refine Pure.drew ?_ | refine Pure.alloc ?_ _ | refine Pure.setCell ?_ (by simp <;> omega) _)) q4, keepP (by repeat (first | assumption | exact Pure.refl _ | refine Pure.drewN ?_ _ | refine Pure.drew ?_ | refine Pure.alloc ?_ _ | refine Pure.setCell ?_ (by simp <;> omega) _)) q00⟩) ?_
            simp only [List.take_succ_cons, List.take_zero, List.drop_succ_cons, List.drop_zero]
            iterate 30
              first
                | (refine held_no (by exact rfl) ?_)
                | (apply held_of
                   · exact rfl
                   · intro w' hS
                     obtain ⟨s0, s1, s2, s3, s4, s5, s6, s7⟩ := hS
                     go_simp
                     try rw [if_pos HLN.out]
                     try exact rfl)
              try go_simp
              try simp only [HB0.out]
            refine held_nil ?_
            unfold Tail
            go_wp2
            rw [HID.out]
            go_roundg (L.length - (j + 1))
            case measure => have := Hg2.out; omega
            case rel => exact ⟨j + 1, by have := Hg2.out; omega, by go_num, HP2.out.trans (Pure.drew (Pure.refl _))⟩
        · have hjl : j = L.length := by omega
          go_wp2_with fail
          go_roundg (4 - (r + 1))
          case measure => have := Hgk.out; omega
          case rel => exact ⟨r + 1, by have := Hgk.out; omega, by go_num, by exact HP2.out.trans (by repeat (first | assumption | exact Pure.refl _ | refine Pure.drewN ?_ _ | refine Pure.drew ?_ | refine Pure.alloc ?_ _ | refine Pure.setCell ?_ (by simp <;> omega) _))⟩
    · have hr5 : r = 4 := by omega
      go_wp2
      go_end0
      exact ⟨rfl, HP1.out.trans HP.out⟩

set_option maxHeartbeats 1000000 in
set_option maxRecDepth 100000 in
/-- A step is noted and looked at. -/
theorem ibeatU_any (o : IObj) (gh gs nn c_ : Nat) (As : Option Addr) (sets : Nat → Nat) (hl : o.look = lookV gh gs) (hh : o.w0.heap[gh]? = some (.cells #[.bool true] 4 (0, 0))) (hs : o.w0.cell? ⟨gs, 0, none⟩ = some (.slice As nn c_))
    (hcs : Cells o.w0 (.slice As nn c_) nn 1 (fun j => .int .i64 (sets j : Nat))) (hnn : nn = o.cs.length) (hu : ∀ k, sets k < 16) : BeatOk o (fun i mask R => Eqv R mask (sets i)) := by
  intro w vb va s i mask h hE hi hmask hlen
  have H := Lib.hid h
  have HE := Lib.hid hE
  have HCS := Lib.hid hcs
  have HH := Lib.hid hh
  have HS := Lib.hid hs
  have HU := Lib.hid hu
  obtain ⟨p0, p1, p2, p3, p4, p5, p6⟩ := h.obj.facts
  have f3 := h.obj.frozen 3
  have hbase : o.w0.heap.size ≤ w.heap.size := h.pure.size
  obtain ⟨Ab, cb, rfl⟩ := h.bt.form
  have HBT := Lib.hid h.bt
  have HL := Lib.hid hl
  rw [hl] at p6
  clear h p0 p1 p2 p4 p5 hl hE hcs hh hs hu
  unfold lookV at p6
  have hnf : ∀ w : World, (binOp BinOp.neq 69 (.func (.func 77) #[] #[.pointer (some ⟨gh, 0, none⟩), .pointer (some ⟨gs, 0, none⟩)]) .nilFunc).run Try.prog w = .ok (.bool true) w := fun _ => by kernel_rfl
  go_enter Try.func103, Try.ntmps103
  go_wp2_with (at_builtin; go_must (refine wl_append1F elBeatI rfl _ _ rfl o.w0.heap.size _ s.H.length (beatsI s.H) rfl HBT.out w.heap.size 1 [.int .i64 (i : Int), .int .i64 (mask : Int)] rfl rfl rfl rfl (by decide) hlen hbase ?_); intro q' wq hq' hg' hl'; go_must (obtain ⟨Aq, cq, hqe⟩ := hq'.form; subst hqe; have HT := Lib.hid (ORun.beat (i := i) (mask := mask) H.out (Pure.refl w) hq' hg' hl'); have hgc : Chg (fun k => (Value.slice Ab s.H.length cb).ownBlock = some k) w wq := Chg.of_grown hg' (fun k hk => hk); have HNE := Lib.hid H.out.bt_ne; have z3 := (H.out.obj.chg hgc (fun e => (HNE.out _ e).1 rfl)).facts; have z5 := (H.out.obj.chg hgc (fun e => (HNE.out _ e).1 rfl)).frozen 3; obtain ⟨_, z31, _, z33, _, _, z36⟩ := z3; rw [HL.out] at z36; unfold lookV at z36; unfold RMo.vr at z31; clear hq' hg' hl' hgc))
  refine region_tail 10 (by kernel_rfl) (by kernel_rfl) ?_
  simp only [List.take_succ_cons, List.take_zero, List.drop_succ_cons, List.drop_zero]
  repeat still_step
  refine wpStill_nil ?_
  go_wp2_with fail
  have HTD := Lib.hid (HT.out.1.keep (show Pure (wq.setCell ⟨o.p, 3, none⟩ (.slice Aq (s.H.length + 1) cq)) (wq.setCell ⟨o.p, 3, none⟩ (.slice Aq (s.H.length + 1) cq)).drew from Pure.drew (Pure.refl _)))
  refine (ilook_any o.rm gh gs nn c_ As sets _ s.R s.M i mask HTD.out.rm ((Chg.of_pure (S := fun _ => False) HTD.out.pure).heap HH.out id) (keepP HTD.out.pure HS.out) (Cells.keep HCS.out HTD.out.pure) (by omega) (HU.out i) hmask HE.out).mono ?_
  rintro e w7 ⟨rfl, hp7⟩
  go_wp2
  go_end0
  exact ⟨rfl, _, _, HTD.out.keep hp7, HT.out.2.trans (OStep.of_pure ((Pure.drew (Pure.refl _)).trans hp7))⟩

end Go.Proofs.Ytokdfgodmhekmaa

namespace Go.Proofs.Ytokdfgodmhekmaa
open Go.RowKit

def LockPU (w : World) (e : Ending) (w' : World) : Prop := ∃ p : Nat, e = .returned (.tuple #[.pointer (some ⟨p, 0, none⟩), .bool true]) ∧ Pure w w'

set_option maxHeartbeats 4000000 in
set_option maxRecDepth 100000 in
theorem ilockU_any (gh gs c_ : Nat) (As : Option Addr) (sets : Nat → Nat) (vl vm : Value) (cs : List Cd) (n : Nat) (mem : List Int) (w : World) (h : Codes w vl cs) (hm : Ints w vm mem) (hv : PValid cs) (hn1 : 1 ≤ n) (hn8 : n ≤ 8) (hmem : MemOk mem) (hh : w.heap[gh]? = some (.cells #[.bool true] 4 (0, 0))) (hs : w.cell? ⟨gs, 0, none⟩ = some (.slice As cs.length c_)) (hcs : Cells w (.slice As cs.length c_) cs.length 1 (fun j => .int .i64 (sets j : Nat))) (hu : ∀ k, sets k < 16) (huni : ∀ x ∈ (lockOf cs n mem).H, Eqv x.2.2 x.2.1 (sets x.1)) :
    Calls Try.prog 60 #[vl, .int .i64 n, vm, (.func (.func 77) #[] #[.pointer (some ⟨gh, 0, none⟩), .pointer (some ⟨gs, 0, none⟩)])] w (LockPU w) := by
  have HHH := Lib.hid hh
  have HSS := Lib.hid hs
  have HCC := Lib.hid hcs
  have HUU := Lib.hid hu
  have HUNI := Lib.hid huni
  clear hh hs hcs hu huni
  have H := Lib.hid h
  have HM := Lib.hid hm
  have HV := Lib.hid hv
  have HMEM := Lib.hid hmem
  have hc40 := hv.2.1
  obtain ⟨⟨hm1, hm32⟩, _⟩ := hmem
  obtain ⟨A, c, rfl, hnc, hcm⟩ := h.form
  obtain ⟨Am, cm, rfl, hmc, hmcm, _⟩ := hm
  clear h hv
  go_enter Try.func60, Try.ntmps60
  go_wp2_with fail
  refine (icanrun_any _ _ cs n mem _ H.out HM.out (by omega) (by omega) true (by simp only [true_iff]; exact ⟨HV.out, ⟨by omega, by omega⟩, HMEM.out⟩)).mono ?_
  rintro e wa ⟨rfl, hpa⟩
  go_wp2_with fail
  refine (nm_any _ cs _ (H.out.keep hpa) HV.out).mono ?_
  rintro e wb ⟨pm, va0, vo0, rfl, hpb, hpm0, hpm1, htab⟩
  have HPB := Lib.hid (hpa.trans hpb)
  have HPM := Lib.hid (And.intro hpm0 hpm1)
  have HTAB := Lib.hid htab
  clear hpa hpb hpm0 hpm1 htab
  go_wp2_with fail
  refine (clone_any _ mem _ (HM.out.keep HPB.out) hm1 (by omega)).mono ?_
  rintro e wq ⟨gm, cmm, rfl, hown, hp⟩
  obtain ⟨hgm1, hgm2⟩ := hown.lt gm rfl
  have HOWN := Lib.hid hown
  have HP := Lib.hid hp
  clear hown hp
  go_wp2
  have HPo : Hid ((wq.alloc (.cells #[.pointer (some ⟨pm, 0, none⟩), .slice none 0 0, .slice (some ⟨gm, 0, none⟩) mem.length cmm, .slice none 0 0, .slice none 0 0, .int .i64 0, (.func (.func 77) #[] #[.pointer (some ⟨gh, 0, none⟩), .pointer (some ⟨gs, 0, none⟩)])] 71)).heap[wq.heap.size]? = some (.cells #[.pointer (some ⟨pm, 0, none⟩), .slice none 0 0, .slice (some ⟨gm, 0, none⟩) mem.length cmm, .slice none 0 0, .slice none 0 0, .int .i64 0, (.func (.func 77) #[] #[.pointer (some ⟨gh, 0, none⟩), .pointer (some ⟨gs, 0, none⟩)])] 71 (0, 0))) := Lib.hid (heap_alloc_new _ _)
  go_loopg [24] n (fun gk i wr => ∃ (j : Nat) (vr : Value) (rows : Nat → Nat), gk + j = n ∧ i = .int .i64 j ∧ Pure wb wr ∧ RegsB wr wb.heap.size vr j rows ∧
    wr.heap[wq.heap.size]? = some (.cells #[.pointer (some ⟨pm, 0, none⟩), vr, .slice (some ⟨gm, 0, none⟩) mem.length cmm, .slice none 0 0, .slice none 0 0, .int .i64 0, (.func (.func 77) #[] #[.pointer (some ⟨gh, 0, none⟩), .pointer (some ⟨gs, 0, none⟩)])] 71 (0, 0)) ∧
    OwnO wr wb.heap.size 3 1 (.slice (some ⟨gm, 0, none⟩) mem.length cmm) mem.length ((List.range mem.length).map fun j => .int .i64 (mem.getD j 0)) ∧
    OwnO wr wb.heap.size 44 2 (.slice none 0 0) 0 [] ∧ (∀ i, i < j → rows i ≠ gm))
  case atStart =>
    refine ⟨0, .slice none 0 0, fun _ => 0, rfl, rfl, HP.out.trans (by exact (by repeat (first | assumption | exact Pure.refl _ | refine Pure.drewN ?_ _ | refine Pure.drew ?_ | refine Pure.alloc ?_ _ | refine Pure.setCell ?_ (by simp <;> omega) _))), ⟨World.ownsRow_nil _ _ _ _, fun i hi => absurd hi (by omega), fun i hi => absurd hi (by omega), fun i k hi => absurd hi (by omega)⟩, HPo.out, HOWN.out.pure (by exact (by repeat (first | assumption | exact Pure.refl _ | refine Pure.drewN ?_ _ | refine Pure.drew ?_ | refine Pure.alloc ?_ _ | refine Pure.setCell ?_ (by simp <;> omega) _))), OwnO.of_own (World.ownsRow_nil _ _ _ _), fun i hi => absurd hi (by omega)⟩
  case round =>
    obtain ⟨j, vr, rows, hgk, rfl, hp, hregs, hobj, hmem, htr, hne⟩ := hrel
    have Hgk := Lib.hid hgk
    have HR := Lib.hid hregs
    have HO := Lib.hid hobj
    have HMe := Lib.hid hmem
    have HTr := Lib.hid htr
    have HNe := Lib.hid hne
    have hjn : j ≤ n := by omega
    clear hgk hregs hmem htr hne HPo
    have p2 := (cell_of_row wr wq.heap.size 1 _ _ _ hobj).trans rfl
    have hpfr := frozen_of_row wr wq.heap.size 1 _ _ hobj
    have hplt : wq.heap.size < wr.heap.size := (Array.getElem?_eq_some_iff.1 hobj).1
    clear hobj
    by_cases hlt : j < n
    · go_wp2
      refine region_heldF (fun w' => w'.cell? ⟨wq.heap.size, 1, none⟩ = some vr) (List.range 5) [5, 6, 7, 8, 9, 10] (fun l => List.take 5 l) (fun l => List.drop 5 l) (by kernel_rfl) (by kernel_rfl) (by kernel_rfl) (by kernel_rfl) (fun c a d v w h => by cases d <;> exact h) (by exact p2) ?_
      simp only [List.take_succ_cons, List.take_zero, List.drop_succ_cons, List.drop_zero]
      iterate 5
        apply held_of
        · exact rfl
        · intro w' hS
          go_simp
          try exact rfl
        try go_simp
      refine held_nil ?_
      unfold Tail
      refine wl_make elInt rfl _ _ rfl wb.heap.size _ _ _ _ 4 rfl rfl rfl rfl (by decide) (by decide) hp.size ?_
      intro w4 hown4 hp4 hsz4
      have HZ4 := Lib.hid (own_zero4 hown4)
      have HP4 := Lib.hid ((show Pure wr wr.drew from Pure.drew (Pure.refl _)).trans hp4)
      have z2 := (HP4.out.cell _ _ hplt).trans p2
      have hplt4 := Nat.lt_of_lt_of_le hplt HP4.out.size
      clear hown4 hp4
      go_wp2
      refine And.intro z2 ?_
      unfold Tail
      go_wp2
      refine And.intro (keepPc (by exact (by repeat (first | assumption | exact Pure.refl _ | refine Pure.drewN ?_ _ | refine Pure.drew ?_ | refine Pure.alloc ?_ _ | refine Pure.setCell ?_ (by simp <;> omega) _))) z2) ?_
      unfold Tail
      have hgx := heap_alloc_new w4 (.cells #[.slice (some ⟨wr.heap.size, 0, none⟩) 4 4] 23)
      have hcx := cell_of_row _ _ 0 _ _ _ hgx
      refine wl_append elInts rfl _ _ rfl wb.heap.size vr j _ rfl (own_pure HR.out.own (HP4.out.trans (by exact (by repeat (first | assumption | exact Pure.refl _ | refine Pure.drewN ?_ _ | refine Pure.drew ?_ | refine Pure.alloc ?_ _ | refine Pure.setCell ?_ (by simp <;> omega) _))))) w4.heap.size 1 1 [.slice (some ⟨wr.heap.size, 0, none⟩) 4 4] rfl rfl (fun i u hu => ?_) (by intro u hu; simp at hu; subst hu; rfl) (by omega) (by omega) (Nat.le_trans hp.size (Nat.le_trans HP4.out.size (by simp))) ?_
      · have hi : i = 0 := by
          by_cases e : i = 0
          · exact e
          · rw [List.getElem?_eq_none (by simp; omega)] at hu; cases hu
        subst hi
        rw [← hu]; exact hcx
      intro v5 w5 hown5 hg5
      obtain ⟨g5, c5, hv5, _, _, _, _⟩ := own_form hown5 (by omega)
      subst hv5
      have hPw1 : Pure wr (w4.alloc (.cells #[.slice (some ⟨wr.heap.size, 0, none⟩) 4 4] 23)) := HP4.out.trans (by exact (by repeat (first | assumption | exact Pure.refl _ | refine Pure.drewN ?_ _ | refine Pure.drew ?_ | refine Pure.alloc ?_ _ | refine Pure.setCell ?_ (by simp <;> omega) _)))
      have hc5 : Chg (fun k => vr.ownBlock = some k) (w4.alloc (.cells #[.slice (some ⟨wr.heap.size, 0, none⟩) 4 4] 23)) w5 := Chg.of_grown hg5 (fun k hk => hk)
      have hvrp : ∀ k, vr.ownBlock = some k → k ≠ wq.heap.size := own_ne_heap HR.out.own HO.out (by decide)
      have hO5 : w5.heap[wq.heap.size]? = some (.cells #[.pointer (some ⟨pm, 0, none⟩), vr, .slice (some ⟨gm, 0, none⟩) mem.length cmm, .slice none 0 0, .slice none 0 0, .int .i64 0, (.func (.func 77) #[] #[.pointer (some ⟨gh, 0, none⟩), .pointer (some ⟨gs, 0, none⟩)])] 71 (0, 0)) :=
        hc5.heap ((Chg.of_pure (S := fun _ => False) hPw1).heap HO.out id) (fun e => hvrp _ e rfl)
      have hz1 := (Chg.of_pure (S := fun _ => False) (show Pure w4 (w4.alloc (.cells #[.slice (some ⟨wr.heap.size, 0, none⟩) 4 4] 23)) from (by repeat (first | assumption | exact Pure.refl _ | refine Pure.drewN ?_ _ | refine Pure.drew ?_ | refine Pure.alloc ?_ _ | refine Pure.setCell ?_ (by simp <;> omega) _)))).heap HZ4.out id
      have hR5 := HR.out.push hPw1 (Nat.le_refl _) hp.size hz1 hown5 hg5
      have hM5 := (HMe.out.pure hPw1).chg hc5 (fun g hg e => (OwnO.of_own (own_pure HR.out.own hPw1)).ne (HMe.out.pure hPw1) (by decide) g e hg.symm)
      have hT5 := (HTr.out.pure hPw1).chg hc5 (fun g hg e => (OwnO.of_own (own_pure HR.out.own hPw1)).ne (HTr.out.pure hPw1) (by decide) g e hg.symm)
      have hP5 : Pure wb w5 := Chg.pure (hp.trans hPw1) hc5 (fun k hk => (own_lt HR.out.own k hk).1)
      have hc6 : Chg (fun k => k = wq.heap.size) w5 (w5.setCell ⟨wq.heap.size, 1, none⟩ (.slice (some ⟨g5, 0, none⟩) (j + 1) c5)) := Chg.of_set w5 _ _ _ rfl
      have HO6 : Hid ((w5.setCell ⟨wq.heap.size, 1, none⟩ (.slice (some ⟨g5, 0, none⟩) (j + 1) c5)).heap[wq.heap.size]? = some (.cells #[.pointer (some ⟨pm, 0, none⟩), .slice (some ⟨g5, 0, none⟩) (j + 1) c5, .slice (some ⟨gm, 0, none⟩) mem.length cmm, .slice none 0 0, .slice none 0 0, .int .i64 0, (.func (.func 77) #[] #[.pointer (some ⟨gh, 0, none⟩), .pointer (some ⟨gs, 0, none⟩)])] 71 (0, 0))) := Lib.hid (by
        rw [heap_setCell_same w5 wq.heap.size 1 _ _ _ hO5]; rfl)
      have HR6 := Lib.hid (hR5.chg hc6 (fun g hg e => own_ne_heap hR5.own hO5 (by decide) g hg e) (fun i hi e => ne_of_heap (hR5.row i hi) hO5 (by decide) e))
      have HM6 := Lib.hid (hM5.chg hc6 (fun g hg e => hM5.ne_heap hO5 (by decide) g hg e))
      have HT6 := Lib.hid (hT5.chg hc6 (fun g hg e => hT5.ne_heap hO5 (by decide) g hg e))
      have HP6 : Hid (Pure wb (w5.setCell ⟨wq.heap.size, 1, none⟩ (.slice (some ⟨g5, 0, none⟩) (j + 1) c5))) := Lib.hid (Chg.pure hP5 hc6 (fun k hk => by rw [hk]; have := HP.out.size; omega))
      have z5 := (cell_of_row w5 wq.heap.size 1 _ _ _ hO5).trans rfl
      have zf5 := frozen_of_row w5 wq.heap.size 1 _ _ hO5
      have hgmlt : gm < wr.heap.size := (HMe.out.lt gm rfl).2
      clear hown5 hg5 hPw1 hc5 hvrp hO5 hz1 hR5 hM5 hT5 hP5 hc6 hgx hcx z2
      go_wp2
      refine And.intro z5 ?_
      unfold Tail
      go_wp2
      refine And.intro z5 ?_
      unfold Tail
      go_wp2
      refine And.intro z5 ?_
      unfold Tail
      go_wp2
      go_roundg (n - (j + 1))
      case measure => have := Hgk.out; omega
      case rel =>
        refine ⟨j + 1, _, _, by have := Hgk.out; omega, by go_num, HP6.out, HR6.out, HO6.out, HM6.out, HT6.out, fun i hi => ?_⟩
        show (if i = j then wr.heap.size else rows i) ≠ gm
        split
        · omega
        · exact HNe.out i (by omega)
    · have hjl : j = n := by have := Hgk.out; omega
      subst hjl
      obtain ⟨gr, cr, hvr, hgr1, hgr2, hcr1, hcr2⟩ := own_form HR.out.own (by omega)
      subst hvr
      go_wp2_with fail
      refine (imaskall_any j _ hn1 hn8).mono ?_
      rintro e w' ⟨rfl, rfl⟩
      obtain ⟨h1, h2, h3⟩ := treeOf_spec HV.out
      have hlen : (treeOf cs).len = cs.length := (congrArg List.length h1).symm
      have hrun : ORun ⟨⟨wb.heap.size, j, mem.length, gr, cr, gm, cmm, rows⟩, wb, cs, .slice A cs.length c, va0, vo0, pm, wq.heap.size, (.func (.func 77) #[] #[.pointer (some ⟨gh, 0, none⟩), .pointer (some ⟨gs, 0, none⟩)])⟩ wr (.slice none 0 0) (.slice none 0 0) (startLS mem) :=
        ⟨hp, H.out.keep HPB.out, HPM.out, HTAB.out, rfl, HR.out.rm hn1 hn8 hm1 hm32 HMe.out HNe.out, hn1, HO.out, HP.out.size, HTr.out, OwnO.of_own (World.ownsRow_nil _ _ _ _), startLS_good HMEM.out⟩
      have HRUN := Lib.hid hrun
      have hcost : msz (startLS mem) + 10 * (treeOf cs).cost ≤ 1099511627000 := by
        have := HV.out.cost h1 h2 h3
        have e : msz (startLS mem) = 0 := rfl
        omega
      have hpow : 2 ^ j - 1 < 2 ^ j := Nat.sub_lt (Nat.two_pow_pos j) (by decide)
      have HTREE := Lib.hid (And.intro h2 (And.intro hlen (And.intro hcost hpow)))
      have HSEG : Hid (Seg cs 0 (treeOf cs)) := Lib.hid (Seg.whole h1)
      clear h1 h2 h3 hlen hrun hcost hpow
      go_wp2_with fail
      refine (iblockU_any ⟨⟨wb.heap.size, j, mem.length, gr, cr, gm, cmm, rows⟩, wb, cs, .slice A cs.length c, va0, vo0, pm, wq.heap.size, (.func (.func 77) #[] #[.pointer (some ⟨gh, 0, none⟩), .pointer (some ⟨gs, 0, none⟩)])⟩ HV.out (fun i mask R => Eqv R mask (sets i)) (ibeatU_any _ gh gs cs.length c_ As sets rfl ((Chg.of_pure (S := fun _ => False) HPB.out).heap HHH.out id) (keepP HPB.out HSS.out) (Cells.keep HCC.out HPB.out) rfl HUU.out) _ (treeOf cs) 0 (2 ^ j - 1) (startLS mem) _ _ wr _ _ (Nat.le_refl _) HTREE.out.1 HSEG.out (by have := HTREE.out.2.1; show 0 + (treeOf cs).len ≤ cs.length; omega) HTREE.out.2.2.2 HTREE.out.2.2.1 HUNI.out HRUN.out (by simp) (by rw [HTREE.out.2.1]; simp)).mono ?_
      rintro e w7 ⟨rfl, vb7, va7, hr7, _⟩
      have H7 := Lib.hid hr7
      clear hr7
      go_wp2_with fail
      refine bodyPost_ret (results_tmp2 rfl _ _ _) rfl ?_
      exact ⟨_, rfl, HPB.out.trans H7.out.pure⟩

theorem us_tree' {cs : List Cd} {xs : List Int} (h : UsP cs xs) (hv : PValid cs) : xs = usOf cs (treeOf cs) := by
  rw [h.1 hv]
  have ht := hv.tree
  unfold treeOf
  rw [dif_pos ht]

set_option maxHeartbeats 4000000 in
set_option maxRecDepth 100000 in
theorem iunih_any (vl vm : Value) (cs : List Cd) (a : Int) (mem : List Int) (w : World) (h : Codes w vl cs) (hm : Ints w vm mem) (hs1 : cs.length ≤ 1048576) (hs2 : mem.length ≤ 1048576) (B : Bool) (hB : B = true ↔ RunOk cs a mem) :
    Calls Try.prog 56 #[vl, .int .i64 a, vm] w fun e w' => e = .returned (.bool B) ∧ Pure w w' := by
  have H := Lib.hid h
  have HM := Lib.hid hm
  have HB := Lib.hid hB
  obtain ⟨A, c, rfl, hnc, hcm⟩ := h.form
  obtain ⟨Am, cm, rfl⟩ := hm.form
  clear h hm hB
  cases B
  case false =>
    go_enter Try.func56, Try.ntmps56
    go_wp2_with fail
    refine (icanrun_any _ _ cs a mem _ H.out HM.out hs1 hs2 false HB.out).mono ?_
    rintro e w1 ⟨rfl, hp1⟩
    go_wp2
    go_ret
    exact ⟨rfl, hp1⟩
  case true =>
    have hok : RunOk cs a mem := HB.out.1 rfl
    have HOK := Lib.hid hok
    obtain ⟨n, rfl, hn1, hn8⟩ : ∃ n : Nat, a = n ∧ 1 ≤ n ∧ n ≤ 8 := ⟨a.toNat, by have := hok.2.1.1; have := hok.2.1.2; omega, by have := hok.2.1.1; omega, by have := hok.2.1.2; omega⟩
    have HV := Lib.hid hok.1
    have HMEM : Hid (MemOk mem) := Lib.hid ⟨hok.2.2.1, hok.2.2.2⟩
    clear hok
    go_enter Try.func56, Try.ntmps56
    go_wp2_with fail
    refine (icanrun_any _ _ cs n mem _ H.out HM.out hs1 hs2 true (by simp only [true_iff]; exact HOK.out)).mono ?_
    rintro e w1 ⟨rfl, hp1⟩
    have HP1 := Lib.hid hp1
    clear hp1
    go_wp2_with fail
    refine (ius_ok _ cs _ (H.out.keep HP1.out) HV.out).mono ?_
    rintro e w2 ⟨vs, xs, rfl, hxs, _, hos, hp2⟩
    obtain rfl := us_tree' hxs HV.out
    have hxl : (usOf cs (treeOf cs)).length = cs.length := by simp [usOf]
    rw [hxl] at hos
    obtain ⟨As, cs_, rfl⟩ := hos.form
    have HOS := Lib.hid hos
    have HP2 := Lib.hid (HP1.out.trans hp2)
    have HSC := Lib.hid (us_sets rfl hos)
    have HG : Hid ((((w2.alloc (.cells #[.slice As cs.length cs_] 23)).alloc (.cells #[.bool true] 4)).heap[w2.heap.size + 1]?) = some (.cells #[.bool true] 4 (0, 0))) := Lib.hid (by
      have := heap_alloc_new (w2.alloc (.cells #[.slice As cs.length cs_] 23)) (.cells #[.bool true] 4)
      simpa using this)
    have HPA := Lib.hid (show Pure w2 ((w2.alloc (.cells #[.slice As cs.length cs_] 23)).alloc (.cells #[.bool true] 4)) from (by repeat (first | assumption | exact Pure.refl _ | refine Pure.drewN ?_ _ | refine Pure.drew ?_ | refine Pure.alloc ?_ _ | refine Pure.setCell ?_ (by simp <;> omega) _)))
    have HGS : Hid (((w2.alloc (.cells #[.slice As cs.length cs_] 23)).alloc (.cells #[.bool true] 4)).cell? ⟨w2.heap.size, 0, none⟩ = some (.slice As cs.length cs_)) := Lib.hid (by
      have h1 := heap_alloc_new w2 (.cells #[.slice As cs.length cs_] 23)
      have h2 := (Chg.of_pure (S := fun _ => False) (show Pure (w2.alloc (.cells #[.slice As cs.length cs_] 23)) ((w2.alloc (.cells #[.slice As cs.length cs_] 23)).alloc (.cells #[.bool true] 4)) from (by repeat (first | assumption | exact Pure.refl _ | refine Pure.drewN ?_ _ | refine Pure.drew ?_ | refine Pure.alloc ?_ _ | refine Pure.setCell ?_ (by simp <;> omega) _)))).heap h1 id
      exact (cell_of_row _ _ 0 _ _ _ h2).trans rfl)
    have HTO : Hid ((treeOf cs).Ok) := Lib.hid (treeOf_spec HV.out).2.1
    clear hxs hos hp2 hxl
    go_wp2_with fail
    refine (ilockU_any (w2.heap.size + 1) w2.heap.size cs_ As (usL cs (treeOf cs)) _ _ cs n mem _ (H.out.keep (HP2.out.trans HPA.out)) (HM.out.keep (HP2.out.trans HPA.out)) HV.out hn1 hn8 HMEM.out HG.out HGS.out (Cells.keep HSC.out HPA.out) (fun k => usL_lt HTO.out k) (fun x hx => lock_holds HV.out x hx)).mono ?_
    rintro e w3 ⟨p, rfl, hp3⟩
    have p0 := cell_of_row _ _ 0 _ _ _ ((Chg.of_pure (S := fun _ => False) hp3).heap HG.out id)
    simp only [List.getElem?_toArray, List.getElem?_cons_zero] at p0
    have HP3 := Lib.hid ((HP2.out.trans HPA.out).trans hp3)
    clear hp3
    go_wp2_with fail
    go_ret
    exact ⟨rfl, HP3.out⟩

end Go.Proofs.Ytokdfgodmhekmaa
