/- What an instruction does to one lane, as the reference reckons it. append to a slice that is still the empty one it began as, or the call's own. Sets as numbers that are not negative: Go's operations on their digits. No program in sight. A run in lockstep, as the reference keeps it in memory: its object; the lanes whose register is not 0; the mask of all lanes. The reader that the drawn inputs come from: it yields numbers, and changes nothing but its own counter. No condition. -/
import Derived.StillTailTactics
import Derived.ArgAppend
import Derived.Laws.BitsAllLaws
import Derived.Lib.QuoteBits
import Derived.Test.YtmhaaihgepldhaaKac
import Derived.Test.YtmhaaihgepldhaaKaf
import Derived.Test.YtmhaaihgepldhaaKah

namespace Go.Proofs.Ytmhaaihgepldhaa
open Go.RowKit

theorem region_tail {P : Program} {id : Nat} {Q : Exit → Act → World → Prop} {a : Act} {w : World} {l : List Oper} (n : Nat) (hm : P.follows .mixedOrders = true) (hB : Region.lexTailB .any l.toArray n = true)
    (h : wpStill P l.toArray w.drew (fun a' => wpList P l.toArray Q (l.drop n) a' w.drew) (l.take n) a) : (Code.region id l.toArray true).wp P Q a w :=
  wp_region_still_tail n hm hB h

def SimPost (o : RMo) (x : Cd) (k : Nat) (R : Nat → Nat → Int) (M : Nat → Int) (w : World) (e : Ending) (w' : World) : Prop :=
  e = .returned (.tuple #[]) ∧ RM o w' (upR R k (simR x k o.m (R k) M)) (simM x o.m (R k) M) ∧ Chg (o.lane k) w w'
theorem SimPost.reg {o : RMo} {x : Cd} {k r : Nat} {v : Int} {R : Nat → Nat → Int} {M : Nat → Int} {w w' : World} (h : RM o w R M) (hk : k < o.n) (hr : r < 4) (hR : simR x k o.m (R k) M = setF (R k) r v) (hM : simM x o.m (R k) M = M)
    (hp : Pure (w.setCell ⟨o.rows k, r, none⟩ (.int .i64 v)) w') : SimPost o x k R M w (.returned (.tuple #[])) w' := by
  refine ⟨rfl, ?_, (Chg.of_set w _ _ _ (.inl rfl)).trans (Chg.of_pure hp)⟩
  rw [hR, hM]
  exact (h.setReg hk hr v).pure hp
theorem SimPost.same {o : RMo} {x : Cd} {k : Nat} {R : Nat → Nat → Int} {M : Nat → Int} {w w' : World} (h : RM o w R M) (hR : simR x k o.m (R k) M = R k) (hM : simM x o.m (R k) M = M) (hp : Pure w w') : SimPost o x k R M w (.returned (.tuple #[])) w' := by
  refine ⟨rfl, ?_, Chg.of_pure hp⟩
  rw [hR, hM, upR_same]
  exact h.pure hp
theorem SimPost.mem {o : RMo} {x : Cd} {k j : Nat} {v : Int} {R : Nat → Nat → Int} {M : Nat → Int} {w w' : World} (h : RM o w R M) (hR : simR x k o.m (R k) M = R k) (hM : simM x o.m (R k) M = setF M j v)
    (hp : Pure (w.setCell ⟨o.gm, j, none⟩ (.int .i64 v)) w') : SimPost o x k R M w (.returned (.tuple #[])) w' := by
  refine ⟨rfl, ?_, (Chg.of_set w _ _ _ (.inr rfl)).trans (Chg.of_pure hp)⟩
  rw [hR, hM, upR_same]
  exact (h.setMem j v).pure hp

end Go.Proofs.Ytmhaaihgepldhaa

namespace Go.Proofs.Ytmhaaihgepldhaa
open Go.RowKit

/-- A slice of the call's own, or still the empty one (v0) that was there first. -/
def OwnE (v0 : Value) (w : World) (B e s : Nat) (v : Value) (n : Nat) (xs : List Value) : Prop := OwnO w B e s v n xs ∨ (n = 0 ∧ xs = [] ∧ v = v0)
theorem OwnE.pure {v0 : Value} {w w' : World} {B e s n : Nat} {v : Value} {xs : List Value} (h : OwnE v0 w B e s v n xs) (hp : Pure w w') : OwnE v0 w' B e s v n xs := h.imp (fun h => h.pure hp) id
theorem OwnE.start (v0 : Value) (w : World) (B e s : Nat) : OwnE v0 w B e s v0 0 [] := .inr ⟨rfl, rfl, rfl⟩
theorem OwnO.base' {w : World} {B B' e s n : Nat} {v : Value} {xs : List Value} (h : OwnO w B e s v n xs) (hB : B' ≤ B) : OwnO w B' e s v n xs := by
  refine ⟨h.1, ?_⟩
  rcases h.2 with h | ⟨g, off, cap, cur, e1, e2, e3⟩
  · exact .inl h
  · exact .inr ⟨g, off, cap, cur, e1, by omega, e3⟩
theorem OwnE.own {v0 : Value} {w : World} {B B0 e s n : Nat} {v : Value} {xs : List Value} (h : OwnE v0 w B e s v n xs) (h0 : OwnO w B0 e s v0 0 []) (hB : B0 ≤ B) : OwnO w B0 e s v n xs := by
  rcases h with h | ⟨rfl, rfl, rfl⟩
  · exact h.base' hB
  · exact h0
theorem OwnE.form {b : Nat} {w : World} {B e s n : Nat} {v : Value} {xs : List Value} (h : OwnE (.slice (some ⟨b, 0, none⟩) 0 0) w B e s v n xs) : ∃ A c, v = .slice A n c := by
  rcases h with h | ⟨rfl, rfl, rfl⟩
  · exact h.form
  · exact ⟨_, _, rfl⟩

section
variable {P : Program} {t e : TypeId} {s : Nat} {z : List Value} {bytes : Nat}
theorem wl_append1E (E : ElT P t e s z bytes) {w : World} {ops : Array Oper} {rest : List Oper} {o : Oper} {a : Act} {Q : Exit → Act → World → Prop} {et : TypeId}
    (hgd : o.guard = none) (sl x : Operand) (ho : o.op = .call { callee := .builtin .append, args := #[sl, x], argTypes := #[t, t] })
    (g0 B : Nat) (v : Value) (n : Nat) (xs : List Value) (hs : a.eval sl = v) (hown : OwnE (.slice (some ⟨g0, 0, none⟩) 0 0) w B e s v n xs)
    (b c : Nat) (news : List Value) (hx : a.eval x = .slice (some ⟨b, 0, none⟩) 1 c) (hb : b = w.heap.size) (hl : news.length = s) (h1 : news.all (·.oneCell') = true)
    (hby : bytes ≤ 128) (hn : n + 1 ≤ 1099511627776) (hB : B ≤ w.heap.size)
    (h : ∀ v' w', OwnO w' B e s v' (n + 1) (xs ++ news) → (∀ w0 : World, w0.heap.size ≤ B → Pure w0 w → Pure w0 w') → wpList P ops Q rest (a.put o.dst v') w') : wpList P ops Q (o :: rest) a (w.alloc (.cells news.toArray et)) := by
  rcases hown with hown | ⟨rfl, rfl, rfl⟩
  · refine wl_append1F E hgd sl x ho B v n xs hs hown b c news hx hb hl h1 hby hn hB fun v' w' r1 r2 _ => h v' w' r1 fun w0 h0 hp => ?_
    exact Pure.grown hp r2 (fun k hk => Nat.le_trans h0 (hown.lt k hk).1)
  · subst hb
    obtain ⟨i, zv, h2, h3, h4, h5, h6, h7⟩ := E.parts
    have hcell : ∀ j u, news[j]? = some u → (w.alloc (.cells news.toArray et)).cell? ((⟨w.heap.size, 0, none⟩ : Addr).add j) = some u := fun j u hu => by
      rw [add_mid, Nat.zero_add, cell_of_row (w.alloc (.cells news.toArray et)) w.heap.size j news.toArray et (0, 0) (heap_alloc_new w _)]
      simpa using hu
    refine wpList_append_grows (w.alloc (.cells news.toArray et)) hgd sl x t ho e i zv s bytes E.ht h2 h3 h4 h5 (by rw [h6]; simpa using h7) E.hs (some ⟨g0, 0, none⟩) 0 0 [] hs (fun hh => by cases hh) (by simp) (fun _ _ j u hu => by simp at hu)
      ⟨w.heap.size, 0, none⟩ 1 c news hx (by omega) hcell (fun u hu => (List.all_eq_true.1 h1) u hu) (by omega) (by unfold maxLen; omega) (by omega) fun v' w' r1 r2 => ?_
    have hsz : w.heap.size ≤ (w.alloc (.cells news.toArray et)).heap.size := (Pure.alloc (Pure.refl w) _).size
    refine h v' w' (by simpa using (OwnO.of_own r1).base' (Nat.le_trans hB hsz)) fun w0 _ hp => ?_
    exact (hp.alloc _).grown r2 (fun k hk => by cases hk)
end

end Go.Proofs.Ytmhaaihgepldhaa

namespace Go.Proofs.Ytmhaaihgepldhaa
open Go.RowKit

theorem ofInt64 (i : Nat) (h : i < 9223372036854775808) : (BitVec.ofInt 64 (i : Int)).toNat = i := ofInt_u64 i (by omega)
theorem bits_or {a b : Nat} (ha : a < 4611686018427387904) (hb : b < 4611686018427387904) : bits .or .i64 (a : Int) (b : Int) = ((a ||| b : Nat) : Int) := by
  show IntKind.i64.wrap ((BitVec.ofInt 64 (a : Int) ||| BitVec.ofInt 64 (b : Int)).toNat : Int) = _
  rw [BitVec.toNat_or, ofInt64 a (by omega), ofInt64 b (by omega)]
  have := Nat.or_lt_two_pow (n := 62) (by omega : a < 2 ^ 62) (by omega : b < 2 ^ 62)
  exact Lib.wrap_i64_small _ (by omega)
theorem bits_and {a b : Nat} (ha : a < 4611686018427387904) (hb : b < 4611686018427387904) : bits .and .i64 (a : Int) (b : Int) = ((a &&& b : Nat) : Int) := by
  show IntKind.i64.wrap ((BitVec.ofInt 64 (a : Int) &&& BitVec.ofInt 64 (b : Int)).toNat : Int) = _
  rw [BitVec.toNat_and, ofInt64 a (by omega), ofInt64 b (by omega)]
  have := Nat.and_lt_two_pow (n := 62) a (by omega : b < 2 ^ 62)
  exact Lib.wrap_i64_small _ (by omega)
theorem bits_xor {a b : Nat} (ha : a < 4611686018427387904) (hb : b < 4611686018427387904) : bits .xor .i64 (a : Int) (b : Int) = ((a ^^^ b : Nat) : Int) := by
  show IntKind.i64.wrap ((BitVec.ofInt 64 (a : Int) ^^^ BitVec.ofInt 64 (b : Int)).toNat : Int) = _
  rw [BitVec.toNat_xor, ofInt64 a (by omega), ofInt64 b (by omega)]
  have := Nat.xor_lt_two_pow (n := 62) (by omega : a < 2 ^ 62) (by omega : b < 2 ^ 62)
  exact Lib.wrap_i64_small _ (by omega)
theorem and_not_nat {a b : Nat} (ha : a < 2 ^ 64) (hb : b < 2 ^ 64) : a &&& (2 ^ 64 - 1 - b) = a ^^^ (a &&& b) := by
  apply Nat.eq_of_testBit_eq
  intro i
  rw [show 2 ^ 64 - 1 - b = 2 ^ 64 - (b + 1) by omega, Nat.testBit_and, Nat.testBit_xor, Nat.testBit_and, Nat.testBit_two_pow_sub_succ hb]
  by_cases hi : i < 64
  · simp [hi]; cases a.testBit i <;> cases b.testBit i <;> rfl
  · have : a.testBit i = false := Nat.testBit_lt_two_pow (Nat.lt_of_lt_of_le ha (Nat.pow_le_pow_right (by decide) (by omega)))
    simp [this]
theorem bits_andNot {a b : Nat} (ha : a < 4611686018427387904) (hb : b < 4611686018427387904) : bits .andNot .i64 (a : Int) (b : Int) = ((a ^^^ (a &&& b) : Nat) : Int) := by
  show IntKind.i64.wrap ((BitVec.ofInt 64 (a : Int) &&& ~~~BitVec.ofInt 64 (b : Int)).toNat : Int) = _
  rw [BitVec.toNat_and, BitVec.toNat_not, ofInt64 a (by omega), ofInt64 b (by omega), and_not_nat (by omega) (by omega)]
  have := Nat.xor_lt_two_pow (n := 62) (by omega : a < 2 ^ 62) (Nat.and_lt_two_pow (n := 62) a (by omega : b < 2 ^ 62))
  exact Lib.wrap_i64_small _ (by omega)

/-- Digit i of a number. -/
theorem digit_cast (u i : Nat) : ((u : Int) / 2 ^ i) % 2 = ((u / 2 ^ i % 2 : Nat) : Int) := by
  have : ((2 ^ i : Nat) : Int) = (2 : Int) ^ i := by simp
  rw [← this]; norm_cast
theorem digit_nonneg (u i : Nat) : (0 : Int) ≤ (u : Int) / 2 ^ i := Int.ediv_nonneg (by omega) (Int.pow_nonneg (by decide))
theorem digit_testBit (u i : Nat) : u / 2 ^ i % 2 = if u.testBit i then 1 else 0 := by
  rw [Nat.testBit_eq_decide_div_mod_eq]
  have := Nat.mod_two_eq_zero_or_one (u / 2 ^ i)
  rcases this with h | h <;> simp [h]

theorem digit_eq1 (u i : Nat) : (((u : Int) / 2 ^ i) % 2 == 1) = u.testBit i := by
  rw [digit_cast, digit_testBit]
  cases u.testBit i <;> simp
theorem digit_eq0 (u i : Nat) : (((u : Int) / 2 ^ i) % 2 == 0) = !u.testBit i := by
  rw [digit_cast, digit_testBit]
  cases u.testBit i <;> simp

/-- How many digits below i are 1. -/
def cnt (u : Nat) : Nat → Nat
  | 0 => 0
  | i + 1 => cnt u i + u / 2 ^ i % 2
theorem cnt_le (u : Nat) : ∀ i, cnt u i ≤ i
  | 0 => Nat.le_refl _
  | i + 1 => by
    have := cnt_le u i
    have h := Nat.mod_lt (u / 2 ^ i) (by decide : 0 < 2)
    show cnt u i + u / 2 ^ i % 2 ≤ i + 1
    omega

end Go.Proofs.Ytmhaaihgepldhaa

namespace Go.Proofs.Ytmhaaihgepldhaa
open Go.RowKit

theorem shl8 {j : Nat} (h : j < 9) : wrap64 (2 ^ j) = ((2 ^ j : Nat) : Int) := by
  have : j = 0 ∨ j = 1 ∨ j = 2 ∨ j = 3 ∨ j = 4 ∨ j = 5 ∨ j = 6 ∨ j = 7 ∨ j = 8 := by omega
  rcases this with rfl | rfl | rfl | rfl | rfl | rfl | rfl | rfl | rfl
  all_goals (rw [← IntWalk.i64_left, IntWalk.i64_in _ ⟨by decide, by decide⟩]; rfl)
theorem pow8 {j : Nat} (h : j ≤ 8) : 2 ^ j ≤ 256 := by
  calc 2 ^ j ≤ 2 ^ 8 := Nat.pow_le_pow_right (by decide) h
    _ = 256 := rfl

/-- Where a run of the reference lies, and what it does not change. -/
structure SO where
  rm : RMo
  w0 : World
  cs : List Cd
  vl : Value
  p : Nat
  vc : Value
  chk : Bool
  sets : Nat → Nat

def beatsL (H : List (Nat × Nat × (Nat → Nat → Int))) : List Value := H.flatMap fun x => [.int .i64 (x.1 : Nat), .int .i64 (x.2.1 : Nat)]
theorem beatsL_append (H : List (Nat × Nat × (Nat → Nat → Int))) (x : Nat × Nat × (Nat → Nat → Int)) : beatsL (H ++ [x]) = beatsL H ++ [.int .i64 (x.1 : Nat), .int .i64 (x.2.1 : Nat)] := by
  simp [beatsL]
/-- Whether a barrier was split. -/
def splitH (cs : List Cd) (n : Nat) (H : List (Nat × Nat × (Nat → Nat → Int))) : Bool := H.any fun x => decide ((cs.getD x.1 default).op = 10) && !decide (x.2.1 = 2 ^ n - 1)
/-- Whether a register of a set differs between the lanes of a mask (first: the lane that is compared with). -/
def unevTo (set mask : Nat) (R : Nat → Nat → Int) : Nat → Option Nat × Bool
  | 0 => (none, false)
  | j + 1 =>
    let (f, b) := unevTo set mask R j
    if mask.testBit j then (some (f.getD j), b || (List.range 4).any fun r => set.testBit r && !decide (R j r = R (f.getD j) r)) else (f, b)
def unev (n set mask : Nat) (R : Nat → Nat → Int) : Bool := (unevTo set mask R n).2
def SO.un (o : SO) (H : List (Nat × Nat × (Nat → Nat → Int))) : Bool := o.chk && H.any fun x => unev o.rm.n (o.sets x.1) x.2.1 x.2.2

end Go.Proofs.Ytmhaaihgepldhaa

namespace Go.Proofs.Ytmhaaihgepldhaa
open Go.RowKit

/-- The reader's block, in a world that has grown out of w0. -/
structure Rdr (w0 w : World) (p : Nat) (vb : Value) (bs : List Int) (c : Nat) : Prop where
  pure : Pure w0 w
  lo : w0.heap.size ≤ p
  bytes : Bytes w0 vb bs
  len : bs.length ≤ 2000
  cell : w.heap[p]? = some (.cells #[vb, .int .i64 (c : Nat)] 88 (0, 0))
section
variable {w0 w w' : World} {p c : Nat} {vb : Value} {bs : List Int}
theorem Rdr.keep (h : Rdr w0 w p vb bs c) (hp : Pure w w') : Rdr w0 w' p vb bs c :=
  ⟨h.pure.trans hp, h.lo, h.bytes, h.len, (Chg.of_pure (S := fun _ => False) hp).heap h.cell id⟩
theorem Rdr.chg {S : Nat → Prop} (h : Rdr w0 w p vb bs c) (hc : Chg S w w') (hS : ∀ k, S k → w0.heap.size ≤ k) (hp : ¬ S p) : Rdr w0 w' p vb bs c :=
  ⟨Chg.pure h.pure hc hS, h.lo, h.bytes, h.len, hc.heap h.cell hp⟩
theorem Rdr.lt (h : Rdr w0 w p vb bs c) : p < w.heap.size := (Array.getElem?_eq_some_iff.1 h.cell).1
theorem Rdr.set (h : Rdr w0 w p vb bs c) : Rdr w0 (w.setCell ⟨p, 1, none⟩ (.int .i64 ((c + 1 : Nat) : Int))) p vb bs (c + 1) := by
  refine ⟨Pure.setCell h.pure h.lo _, h.lo, h.bytes, h.len, ?_⟩
  rw [heap_setCell_same w p 1 _ _ _ h.cell]; rfl
end

/-- The reader, drawn from at most C times. -/
def Rb (w0 w : World) (p : Nat) (vb : Value) (bs : List Int) (C : Nat) : Prop := ∃ c, c ≤ C ∧ Rdr w0 w p vb bs c
theorem Rb.keep {w0 w w' : World} {p C : Nat} {vb : Value} {bs : List Int} (h : Rb w0 w p vb bs C) (hp : Pure w w') : Rb w0 w' p vb bs C := by
  obtain ⟨c, h1, h2⟩ := h; exact ⟨c, h1, h2.keep hp⟩
theorem Rb.more {w0 w : World} {p C D : Nat} {vb : Value} {bs : List Int} (h : Rb w0 w p vb bs C) (hD : C ≤ D) : Rb w0 w p vb bs D := by
  obtain ⟨c, h1, h2⟩ := h; exact ⟨c, by omega, h2⟩
theorem Rb.chg {S : Nat → Prop} {w0 w w' : World} {p C : Nat} {vb : Value} {bs : List Int} (h : Rb w0 w p vb bs C) (hc : Chg S w w') (hS : ∀ k, S k → w0.heap.size ≤ k) (hp : ¬ S p) : Rb w0 w' p vb bs C := by
  obtain ⟨c, h1, h2⟩ := h; exact ⟨c, h1, h2.chg hc hS hp⟩
theorem Rb.lt {w0 w : World} {p C : Nat} {vb : Value} {bs : List Int} (h : Rb w0 w p vb bs C) : p < w.heap.size := by obtain ⟨c, _, h2⟩ := h; exact h2.lt
theorem Rb.pure {w0 w : World} {p C : Nat} {vb : Value} {bs : List Int} (h : Rb w0 w p vb bs C) : Pure w0 w := by obtain ⟨c, _, h2⟩ := h; exact h2.pure
theorem Rb.lo {w0 w : World} {p C : Nat} {vb : Value} {bs : List Int} (h : Rb w0 w p vb bs C) : w0.heap.size ≤ p := by obtain ⟨c, _, h2⟩ := h; exact h2.lo
theorem Rb.cell {w0 w : World} {p C : Nat} {vb : Value} {bs : List Int} (h : Rb w0 w p vb bs C) : ∃ cur, w.heap[p]? = some (.cells cur 88 (0, 0)) := by obtain ⟨c, _, h2⟩ := h; exact ⟨_, h2.cell⟩
abbrev OnlyAt (p : Nat) (w w' : World) : Prop := Chg (fun k => k = p) w w'

theorem xor_nonneg {a : Nat} (h : a < 4611686018427387904) : ∃ r : Nat, bits .xor .i64 (a : Int) ((a : Int) / 64) = (r : Int) := by
  have : ((a : Int) / 64) = ((a / 64 : Nat) : Int) := by norm_cast
  rw [this]
  exact ⟨a ^^^ (a / 64), by
    have h2 : a / 64 < 4611686018427387904 := by omega
    exact bits_xor (by omega) (by omega)⟩

set_option maxHeartbeats 2000000 in
set_option maxRecDepth 100000 in
theorem pick_any (w0 w : World) (p c : Nat) (vb : Value) (bs : List Int) (n : Nat) (h : Rdr w0 w p vb bs c) (hc : c ≤ 1099511627776) (hn : n ≤ 1048576) :
    Calls Try.prog 60 #[.pointer (some ⟨p, 0, none⟩), .int .i64 n] w fun e w' => ∃ x : Nat, e = .returned (.int .i64 x) ∧ (x < n ∨ x = 0) ∧ Rdr w0 w' p vb bs (c + 1) ∧ Chg (fun k => k = p) w w' := by
  have H := Lib.hid h
  obtain ⟨A, cp, rfl, hnc, hcm⟩ := h.bytes.form
  have hlen := h.len
  have q0 : w.cell? ⟨p, 0, none⟩ = some (.slice A bs.length cp) := (cell_of_row w p 0 _ _ _ h.cell).trans rfl
  have q1 : w.cell? ⟨p, 1, none⟩ = some (.int .i64 (c : Nat)) := (cell_of_row w p 1 _ _ _ h.cell).trans rfl
  have f1 := frozen_of_row w p 1 _ _ h.cell
  have ec : ((c + 1 : Nat) : Int) = (c : Int) + 1 := by push_cast; rfl
  have hs := h.set
  have hcg : Chg (fun k => k = p) w (w.setCell ⟨p, 1, none⟩ (.int .i64 ((c + 1 : Nat) : Int))) := Chg.of_set w p 1 _ rfl
  have z0 : (w.setCell ⟨p, 1, none⟩ (.int .i64 ((c + 1 : Nat) : Int))).cell? ⟨p, 0, none⟩ = some (.slice A bs.length cp) := (cell_of_row _ p 0 _ _ _ hs.cell).trans rfl
  have z1 : (w.setCell ⟨p, 1, none⟩ (.int .i64 ((c + 1 : Nat) : Int))).cell? ⟨p, 1, none⟩ = some (.int .i64 ((c + 1 : Nat) : Int)) := (cell_of_row _ p 1 _ _ _ hs.cell).trans rfl
  rw [ec] at hcg z0 z1
  have hs' : Rdr w0 (w.setCell ⟨p, 1, none⟩ (.int .i64 ((c : Int) + 1))) p (.slice A bs.length cp) bs (c + 1) := by rw [← ec]; exact hs
  obtain ⟨wx, Hwx⟩ : ∃ wx, Hid (w.setCell ⟨p, 1, none⟩ (.int .i64 ((c : Int) + 1)) = wx) := ⟨_, Lib.hid rfl⟩
  have HR : Hid (Rdr w0 (w.setCell ⟨p, 1, none⟩ (.int .i64 ((c : Int) + 1))) p (.slice A bs.length cp) bs (c + 1)) := Lib.hid hs'
  have HCg := Lib.hid hcg
  clear h hs hs' hcg ec
  by_cases hn0 : (n : Int) < 1
  · go_enter Try.func60, Try.ntmps60
    go_wp2
    go_ret
    exact ⟨0, rfl, .inr rfl, HR.out, HCg.out⟩
  · by_cases hb0 : bs.length = 0
    · have hbz : ((bs.length : Int) == 0) = true := by simp [hb0]
      clear hb0
      go_enter Try.func60, Try.ntmps60
      go_wp2
      go_ret
      exact ⟨0, rfl, .inr rfl, HR.out, HCg.out⟩
    · have hbz : ((bs.length : Int) == 0) = false := by simpa using hb0
      by_cases hlt : c < bs.length
      · obtain ⟨b, o, rfl, hb, hcell⟩ := HR.out.bytes.at_ hlt
        have r0 := (HR.out.pure.cell b _ hb).trans (hcell c hlt)
        have hrg := HR.out.bytes.range hlt
        obtain ⟨y, hy⟩ : ∃ y : Nat, bs.getD c 0 = y := ⟨(bs.getD c 0).toNat, by omega⟩
        rw [hy] at r0 hrg
        clear hcell hy hb0
        have htm : (y : Int).tmod (n : Int) = ((y % n : Nat) : Int) := by rw [Int.tmod_eq_emod_of_nonneg (by omega)]; norm_cast
        have hml : y % n < n := Nat.mod_lt _ (by omega)
        obtain ⟨j, Hj⟩ : ∃ j, Hid (y % n = j) := ⟨_, Lib.hid rfl⟩
        rw [Hj.out] at htm hml
        go_enter Try.func60, Try.ntmps60
        go_wp2
        go_ret
        exact ⟨j, rfl, .inl hml, HR.out, HCg.out⟩
      · have hL : 0 < bs.length := by omega
        have t1 : c % bs.length < bs.length := Nat.mod_lt _ hL
        have t2 : (c * 7 + 3) % bs.length < bs.length := Nat.mod_lt _ hL
        obtain ⟨b, o, rfl, hb, hcell⟩ := HR.out.bytes.at_ t1
        have r1 := (HR.out.pure.cell b _ hb).trans (hcell _ t1)
        have r2 := (HR.out.pure.cell b _ hb).trans (hcell _ t2)
        have g1 := HR.out.bytes.range t1
        have g2 := HR.out.bytes.range t2
        obtain ⟨y1, hy1⟩ : ∃ y : Nat, bs.getD (c % bs.length) 0 = y := ⟨(bs.getD (c % bs.length) 0).toNat, by omega⟩
        obtain ⟨y2, hy2⟩ : ∃ y : Nat, bs.getD ((c * 7 + 3) % bs.length) 0 = y := ⟨(bs.getD ((c * 7 + 3) % bs.length) 0).toNat, by omega⟩
        rw [hy1] at r1 g1
        rw [hy2] at r2 g2
        have m1 : (c : Int).tmod (bs.length : Int) = ((c % bs.length : Nat) : Int) := by rw [Int.tmod_eq_emod_of_nonneg (by omega)]; norm_cast
        have m2 : ((c : Int) * 7 + 3).tmod (bs.length : Int) = (((c * 7 + 3) % bs.length : Nat) : Int) := by rw [Int.tmod_eq_emod_of_nonneg (by omega)]; norm_cast
        have m3 : (c : Int).tdiv (bs.length : Int) = ((c / bs.length : Nat) : Int) := by rw [Int.tdiv_eq_ediv_of_nonneg (by omega)]; norm_cast
        have d3 : c / bs.length ≤ c := Nat.div_le_self _ _
        obtain ⟨j1, Hj1⟩ : ∃ j, Hid (c % bs.length = j) := ⟨_, Lib.hid rfl⟩
        obtain ⟨j2, Hj2⟩ : ∃ j, Hid ((c * 7 + 3) % bs.length = j) := ⟨_, Lib.hid rfl⟩
        obtain ⟨j3, Hj3⟩ : ∃ j, Hid (c / bs.length = j) := ⟨_, Lib.hid rfl⟩
        rw [Hj1.out] at t1 r1 m1
        rw [Hj2.out] at t2 r2 m2
        rw [Hj3.out] at m3 d3
        clear hcell hy1 hy2 hb0
        obtain ⟨u, hu⟩ : ∃ u : Nat, (y1 : Int) * 131 + (y2 : Int) * 1117 + (c : Int) * 29 + (j3 : Int) * 53 = u := ⟨y1 * 131 + y2 * 1117 + c * 29 + j3 * 53, by push_cast; rfl⟩
        have hu2 : u < 4611686018427387904 := by omega
        obtain ⟨x, hx⟩ := xor_nonneg hu2
        have htm : (x : Int).tmod (n : Int) = ((x % n : Nat) : Int) := by rw [Int.tmod_eq_emod_of_nonneg (by omega)]; norm_cast
        have hml : x % n < n := Nat.mod_lt _ (by omega)
        obtain ⟨j, Hj⟩ : ∃ j, Hid (x % n = j) := ⟨_, Lib.hid rfl⟩
        rw [Hj.out] at htm hml
        go_enter Try.func60, Try.ntmps60
        go_wp2
        go_quiet (fail)
        go_wp2
        go_ret
        exact ⟨j, rfl, .inl hml, HR.out.keep (by exact (by repeat (first | assumption | exact Pure.refl _ | refine Pure.drewN ?_ _ | refine Pure.drew ?_ | refine Pure.alloc ?_ _ | refine Pure.setCell ?_ (by simp <;> omega) _))), HCg.out.trans (Chg.of_pure (by exact (by repeat (first | assumption | exact Pure.refl _ | refine Pure.drewN ?_ _ | refine Pure.drew ?_ | refine Pure.alloc ?_ _ | refine Pure.setCell ?_ (by simp <;> omega) _))))⟩

theorem pick_t (w0 w : World) (p C : Nat) (vb : Value) (bs : List Int) (n : Nat) (N : Int) (hN : N = n) (h : Rb w0 w p vb bs C) (hc : C ≤ 1099511627776) (hn : n ≤ 1048576) (hn1 : 1 ≤ n) :
    Calls Try.prog 60 #[.pointer (some ⟨p, 0, none⟩), .int .i64 N] w fun e w' => ∃ x : Nat, e = .returned (.int .i64 x) ∧ x < n ∧ Rb w0 w' p vb bs (C + 1) ∧ OnlyAt p w w' := by
  subst hN
  obtain ⟨c, h1, h2⟩ := h
  refine (pick_any w0 w p c vb bs n h2 (by omega) hn).mono ?_
  rintro e w' ⟨x, he, hx, hr, hg⟩
  exact ⟨x, he, by omega, ⟨c + 1, by omega, hr⟩, hg⟩
theorem pick_0 (w0 w : World) (p C : Nat) (vb : Value) (bs : List Int) (n : Nat) (N : Int) (hN : N = n) (h : Rb w0 w p vb bs C) (hc : C ≤ 1099511627776) (hn : n ≤ 1048576) :
    Calls Try.prog 60 #[.pointer (some ⟨p, 0, none⟩), .int .i64 N] w fun e w' => ∃ x : Nat, e = .returned (.int .i64 x) ∧ (x < n ∨ x = 0) ∧ Rb w0 w' p vb bs (C + 1) ∧ OnlyAt p w w' := by
  subst hN
  obtain ⟨c, h1, h2⟩ := h
  refine (pick_any w0 w p c vb bs n h2 (by omega) hn).mono ?_
  rintro e w' ⟨x, he, hx, hr, hg⟩
  exact ⟨x, he, hx, ⟨c + 1, by omega, hr⟩, hg⟩

set_option maxHeartbeats 1000000 in
theorem odd_any (w0 w : World) (p C : Nat) (vb : Value) (bs : List Int) (n : Nat) (N : Int) (hN : N = n) (h : Rb w0 w p vb bs C) (hc : C ≤ 1099511627776) (hn : n ≤ 1048576) :
    Calls Try.prog 83 #[.pointer (some ⟨p, 0, none⟩), .int .i64 N] w fun e w' => ∃ B : Bool, e = .returned (.bool B) ∧ Rb w0 w' p vb bs (C + 1) ∧ OnlyAt p w w' := by
  subst hN
  have H := Lib.hid h
  clear h
  by_cases h0 : (n : Int) > 0
  · go_enter Try.func83, Try.ntmps83
    go_wp2_with fail
    refine (pick_t w0 _ p C vb bs n _ rfl H.out hc hn (by omega)).mono ?_
    rintro e w1 ⟨x, rfl, hx, hr, hg⟩
    have HR := Lib.hid hr
    have HG := Lib.hid hg
    clear hr hg
    by_cases hB : (x : Int) = (n : Int) - 1
    · have hb : ((x : Int) == (n : Int) - 1) = true := by simp [hB]
      clear hB
      go_wp2
      go_ret
      exact ⟨_, rfl, HR.out, HG.out⟩
    · have hb : ((x : Int) == (n : Int) - 1) = false := by simp [hB]
      clear hB
      go_wp2
      go_ret
      exact ⟨_, rfl, HR.out, HG.out⟩
  · obtain rfl : n = 0 := by omega
    clear h0
    go_enter Try.func83, Try.ntmps83
    go_wp2
    go_ret
    exact ⟨_, rfl, H.out.more (by omega), Chg.refl _ _⟩

def OpenedP (w : World) (e : Ending) (w' : World) : Prop := ∃ p vb bs', e = .returned (.pointer (some ⟨p, 0, none⟩)) ∧ Rb w w' p vb bs' 0 ∧ Pure w w'

set_option maxHeartbeats 1000000 in
theorem draw_open (v : Value) (bs : List Int) (w : World) (h : Bytes w v bs) (hs : bs.length ≤ 1048576) : Calls Try.prog 58 #[v] w (OpenedP w) := by
  have H := Lib.hid h
  obtain ⟨A, c, rfl, hnc, hcm⟩ := h.form
  clear h
  by_cases hl : (bs.length : Int) > 2000
  · go_enter Try.func58, Try.ntmps58
    go_wp2
    go_ret
    exact ⟨w.heap.size, _, bs.take 2000, rfl, ⟨0, Nat.le_refl _, ⟨by exact (by repeat (first | assumption | exact Pure.refl _ | refine Pure.drewN ?_ _ | refine Pure.drew ?_ | refine Pure.alloc ?_ _ | refine Pure.setCell ?_ (by simp <;> omega) _)), Nat.le_refl _, H.out.take (by omega), by simp; omega, heap_alloc_new _ _⟩⟩, by exact (by repeat (first | assumption | exact Pure.refl _ | refine Pure.drewN ?_ _ | refine Pure.drew ?_ | refine Pure.alloc ?_ _ | refine Pure.setCell ?_ (by simp <;> omega) _))⟩
  · go_enter Try.func58, Try.ntmps58
    go_wp2
    go_ret
    exact ⟨w.heap.size, _, bs, rfl, ⟨0, Nat.le_refl _, ⟨by exact (by repeat (first | assumption | exact Pure.refl _ | refine Pure.drewN ?_ _ | refine Pure.drew ?_ | refine Pure.alloc ?_ _ | refine Pure.setCell ?_ (by simp <;> omega) _)), Nat.le_refl _, H.out, by omega, heap_alloc_new _ _⟩⟩, by exact (by repeat (first | assumption | exact Pure.refl _ | refine Pure.drewN ?_ _ | refine Pure.drew ?_ | refine Pure.alloc ?_ _ | refine Pure.setCell ?_ (by simp <;> omega) _))⟩

end Go.Proofs.Ytmhaaihgepldhaa
