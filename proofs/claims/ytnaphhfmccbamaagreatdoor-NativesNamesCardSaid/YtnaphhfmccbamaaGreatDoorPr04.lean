/- Contracts of the small functions of package nor (layer 1): within, Geometry, Erases, span, Read, torn. Each holds for every flash that stands in the world as FlashAt says. Contracts of slices.Clone at bytes, and of nor's Read. The clone is new memory. Contract of nor's Program where no bit would turn to 1 and the fuse is not set: the bytes are laid. Contracts of bytes.Repeat at one byte 255, and of nor's New. Contracts of package crc (layer 3): the sums, as what the Go text computes. Contracts of package rec (layer 5): right at a put, a delete, a commit; Size; Bytes. -/
import Derived.Test.YtnaphhfmccbamaaGreatDoorPr01
import Derived.Test.YtnaphhfmccbamaaGreatDoorPr02
import Derived.OpenShut
import Derived.Test.YtnaphhfmccbamaaGreatDoorPr03
import Derived.Lib.AppendStr
namespace Go.Proofs.YtnaphhfmccbamaaGreatDoor
open Go.RowKit

structure FL where
  sectors : Nat
  size : Nat
  limit : Nat
  b : List UInt8
  worn : List Nat
  down : Bool
  fuse : Int
  keep : Int
  mask : Int

def flCells (F : FL) (pb pw cb cw : Nat) : Array Value :=
  #[.int .i64 F.sectors, .int .i64 F.size, .int .i64 F.limit, .slice (some ⟨pb, 0, none⟩) F.b.length cb, .slice (some ⟨pw, 0, none⟩) F.worn.length cw, .bool F.down, .int .i64 F.fuse, .int .i64 F.keep, .int .u8 F.mask]

theorem within_any (n low high : Int) (w : World) :
    Calls Tryz.prog 41 #[.int .i64 n, .int .i64 low, .int .i64 high] w fun e w' => e = .returned (.bool (decide (low ≤ n) && decide (n ≤ high))) ∧ w = w' := by
  by_cases h1 : low ≤ n
  · have H1 : decide (low ≤ n) = true := decide_eq_true h1
    have H1' : decide (n ≥ low) = true := decide_eq_true h1
    go_enter Tryz.func41, Tryz.ntmps41
    go_wp2
    go_ret
    exact ⟨by simp [h1], rfl⟩
  · have H1 : decide (low ≤ n) = false := decide_eq_false h1
    have H1' : decide (n ≥ low) = false := decide_eq_false h1
    go_enter Tryz.func41, Tryz.ntmps41
    go_wp2
    go_ret
    exact ⟨by simp, rfl⟩

/-- A flash behind a pointer to block p, its bytes in block pb, its counts of erases in block pw. -/
structure FlashAt (w : World) (p pb pw : Nat) (F : FL) : Prop where
  main : ∃ cb cw, F.b.length ≤ cb ∧ F.worn.length ≤ cw ∧ Blk w p 93 (flCells F pb pw cb cw)
  bytes : ∃ cs : Array Value, Blk w pb 5 cs ∧ ∀ i (h : i < F.b.length), cs[i]? = some (byteV F.b[i])
  worn : ∃ cs : Array Value, Blk w pw 3 cs ∧ ∀ i (h : i < F.worn.length), cs[i]? = some (.int .i64 F.worn[i])

theorem FlashAt.kp {S : Nat → Prop} {w w' : World} {p pb pw : Nat} {F : FL} (h : FlashAt w p pb pw F) (k : Kp S w w') (h1 : ¬ S p) (h2 : ¬ S pb) (h3 : ¬ S pw) : FlashAt w' p pb pw F := by
  obtain ⟨⟨cb, cw, a, b, c⟩, ⟨cs, d, e⟩, ⟨cs', d', e'⟩⟩ := h
  exact ⟨⟨cb, cw, a, b, c.kp k h1⟩, ⟨cs, d.kp k h2, e⟩, ⟨cs', d'.kp k h3, e'⟩⟩
theorem FlashAt.drewN {w : World} {p pb pw : Nat} {F : FL} (h : FlashAt w p pb pw F) (n : Nat) : FlashAt (w.drewN n) p pb pw F := ⟨h.main, h.bytes, h.worn⟩

theorem Geometry_any (w : World) (p pb pw : Nat) (F : FL) (h : FlashAt w p pb pw F) :
    Calls Tryz.prog 43 #[.pointer (some ⟨p, 0, none⟩)] w fun e w' => e = .returned (.agg #[.int .i64 F.sectors, .int .i64 F.size, .int .i64 F.limit]) ∧ Below w.heap.size w w' := by
  obtain ⟨cb, cw, _, _, hb⟩ := h.main
  have c0 := hb.cell 0
  have c1 := hb.cell 1
  have c2 := hb.cell 2
  have hp := hb.lt
  clear h
  unfold flCells at c0 c1 c2
  simp at c0 c1 c2
  go_enter Tryz.func43, Tryz.ntmps43
  go_wp2
  refine bodyPost_ret (v := .agg #[.int .i64 F.sectors, .int .i64 F.size, .int .i64 F.limit]) (by simp [results, Tryz.results43, go_sem]) rfl ⟨rfl, ?_⟩
  exact (Below.refl w.heap.size w).alloc (Nat.le_refl _) _

theorem Erases_any (w : World) (p pb pw : Nat) (F : FL) (h : FlashAt w p pb pw F) (i : Nat) (hi : i < F.worn.length) (hs : F.worn.length = F.sectors) (hm : F.worn.length ≤ 64) :
    Calls Tryz.prog 72 #[.pointer (some ⟨p, 0, none⟩), .int .i64 i] w fun e w' => e = .returned (.int .i64 F.worn[i]) ∧ w = w' := by
  obtain ⟨cb, cw, _, hcw, hb⟩ := h.main
  obtain ⟨cs, hwb, hw⟩ := h.worn
  have c0 := hb.cell 0
  have c4 := hb.cell 4
  have cc : w.cell? ⟨pw, i, none⟩ = some (.int .i64 F.worn[i]) := (hwb.cell i).trans (hw i hi)
  unfold flCells at c0 c4
  simp at c0 c4
  rw [← hs] at c0
  clear h hs hw
  go_enter Tryz.func72, Tryz.ntmps72
  have H1 : decide ((i : Int) ≤ (F.worn.length : Int) - 1) = true := decide_eq_true (by omega)
  go_wp2
  go_ret
  exact ⟨rfl, rfl⟩

/-- What 'span' answers: a slice of the flash's own bytes. -/
theorem span_ok (w : World) (p pb pw : Nat) (F : FL) (h : FlashAt w p pb pw F) (hd : F.down = false) (at_ n : Nat) (hn : 0 < n) (hb : at_ + n ≤ F.b.length) (hm : F.b.length ≤ 4194304) :
    Calls Tryz.prog 100 #[.pointer (some ⟨p, 0, none⟩), .int .i64 at_, .int .i64 n] w fun e w' =>
      e = .returned (.tuple #[.slice (some ⟨pb, at_, none⟩) n n, .int .i64 0]) ∧ w = w' := by
  obtain ⟨cb, cw, hcb, _, hb0⟩ := h.main
  have c3 := hb0.cell 3
  have c5 := hb0.cell 5
  unfold flCells at c3 c5
  simp at c3 c5
  rw [hd] at c5
  clear h hd hb0
  have t1 : decide ((at_ : Int) < 0) = false := decide_eq_false (by omega)
  have t2 : decide ((n : Int) < 0) = false := decide_eq_false (by omega)
  have t3 : decide (F.b.length < at_) = false := decide_eq_false (by omega)
  have t4 : decide ((F.b.length : Int) - at_ < n) = false := decide_eq_false (by omega)
  go_enter Tryz.func100, Tryz.ntmps100
  go_wp2
  go_ret2
  exact ⟨by simp, rfl⟩

theorem span_down (w : World) (p pb pw : Nat) (F : FL) (h : FlashAt w p pb pw F) (hd : F.down = true) (at_ n : Int) :
    Calls Tryz.prog 100 #[.pointer (some ⟨p, 0, none⟩), .int .i64 at_, .int .i64 n] w fun e w' =>
      e = .returned (.tuple #[.slice none 0 0, .int .i64 5]) ∧ w = w' := by
  obtain ⟨cb, cw, hcb, _, hb0⟩ := h.main
  have c5 := hb0.cell 5
  unfold flCells at c5
  simp at c5
  rw [hd] at c5
  clear h hd hb0
  go_enter Tryz.func100, Tryz.ntmps100
  go_wp2
  go_ret2
  exact ⟨rfl, rfl⟩

/-- torn: not this time. -/
theorem torn_no (w : World) (p pb pw : Nat) (F : FL) (h : FlashAt w p pb pw F) (hf : F.fuse < 0) (n : Nat) :
    Calls Tryz.prog 140 #[.pointer (some ⟨p, 0, none⟩), .int .i64 n] w fun e w' =>
      e = .returned (.tuple #[.int .i64 n, .bool false]) ∧ w = w' := by
  obtain ⟨cb, cw, hcb, _, hb0⟩ := h.main
  have c6 := hb0.cell 6
  unfold flCells at c6
  simp at c6
  clear h hb0
  have t1 : (F.fuse == 0) = false := beq_eq_false_iff_ne.2 (by omega)
  have t2 : (F.fuse != 0) = true := bne_iff_ne.2 (by omega)
  have t3 : decide (0 < F.fuse) = false := decide_eq_false (by omega)
  go_enter Tryz.func140, Tryz.ntmps140
  go_wp2
  go_ret2
  exact ⟨rfl, rfl⟩
end Go.Proofs.YtnaphhfmccbamaaGreatDoor

namespace Go.Proofs.YtnaphhfmccbamaaGreatDoor
open Go.RowKit

theorem ownsRow_empty (w : World) (e : TypeId) : (w.alloc (.cells #[] e)).ownsRow w.heap.size e 1 (.slice (some ⟨w.heap.size, 0, none⟩) 0 0) 0 [] :=
  ⟨rfl, .inr ⟨w.heap.size, 0, #[], rfl, Nat.le_refl _, Blk.new w e #[], Nat.le_refl _, by simp [maxLen], by simp, by simp⟩⟩

set_option maxRecDepth 100000 in
theorem clone_bytes (ok : Nat → Prop) (v : Value) (xs : List Value) (w : World) (h : Sl ok w v xs) (h1 : ∀ u ∈ xs, u.oneCell' = true) (hm : xs.length ≤ 16777216) :
    Calls Tryz.prog 101 #[v] w fun e w' => ∃ r, e = .returned r ∧ Sl (fun b => w.heap.size ≤ b) w' r xs ∧ Below w.heap.size w w' := by
  obtain ⟨i0, hi, hz0, hz1, hz2⟩ := info_parts info_byte
  obtain ⟨A, c, rfl, hc⟩ := h.form
  obtain ⟨_, _, hr⟩ := h.reads
  have kn := fun W a n c => Lib.run_eql_slice_nil (P := Tryz.prog) W 31 5 a n c 0 0 Tryz.underlying31
  cases A with
  | none =>
    have hl : xs = [] := by
      cases xs with
      | nil => rfl
      | cons x r => obtain ⟨b, o, c', e, _⟩ := h.form_pos (by simp only [List.length_cons]; omega); injection e with e1; cases e1
    subst hl
    clear h hr
    go_enter Tryz.func101, Tryz.ntmps101
    go_wp2
    go_ret
    exact ⟨_, rfl, Sl.nil _ _, Below.refl _ _⟩
  | some ad =>
    clear h
    have hr' := hr.alloc (Nat.le_refl _) (.cells #[] 5)
    have ho := ownsRow_empty w 5
    go_enter Tryz.func101, Tryz.ntmps101
    go_wp2_with (at_builtin; refine wpList_append_any _ rfl (.tmp 5) (.tmp 6) _ rfl w.heap.size 5 i0 _ 1 1 Tryz.underlying31 hi hz0 hz1 hz2 rfl (by omega) (.slice (some ⟨w.heap.size, 0, none⟩) 0 0) 0 [] rfl ho w.heap.size (some ad) xs.length c xs rfl hr' h1 ?h1 ?h2 ?h3 ?_)
    case h1 => unfold maxLen; omega
    case h2 => omega
    intro v1 w1 hown1 hg1 hat1
    go_wp2
    go_ret
    refine ⟨v1, rfl, ?_, ?_⟩
    · simpa using Sl.of_own hown1
    · refine ((Below.refl w.heap.size w).alloc (Nat.le_refl _) _).grown hg1 (by simp) ?_
      intro k hk
      simp [Value.ownBlock] at hk
      omega

set_option maxRecDepth 100000 in
theorem Read_ok (w : World) (p pb pw : Nat) (F : FL) (h : FlashAt w p pb pw F) (hd : F.down = false) (at_ n : Nat) (hn : 0 < n) (hb : at_ + n ≤ F.b.length) (hm : F.b.length ≤ 4194304) :
    Calls Tryz.prog 71 #[.pointer (some ⟨p, 0, none⟩), .int .i64 at_, .int .i64 n] w fun e w' =>
      ∃ r, e = .returned (.tuple #[r, .int .i64 0]) ∧ Sl (fun b => w.heap.size ≤ b) w' r (bytesV ((F.b.drop at_).take n)) ∧ Below w.heap.size w w' := by
  have hs := span_ok w p pb pw F h hd at_ n hn hb hm
  have hl : ((F.b.drop at_).take n).length = n := by simp; omega
  have hsl : Sl (fun _ => True) w (.slice (some ⟨pb, at_, none⟩) n n) (bytesV ((F.b.drop at_).take n)) := by
    obtain ⟨cs, hbb, hc⟩ := h.bytes
    refine ⟨some ⟨pb, at_, none⟩, n, by rw [bytesV_length, hl], by rw [bytesV_length, hl]; omega, fun _ => ⟨pb, at_, rfl, trivial, hbb.lt, fun i u hi => ?_⟩⟩
    have hlt : i < n := by
      have := (List.getElem?_eq_some_iff.1 hi).1
      rw [bytesV_length, hl] at this
      exact this
    rw [hbb.cell, hc _ (by omega), ← hi]
    simp only [bytesV, List.getElem?_map, List.getElem?_take_of_lt hlt, List.getElem?_drop, List.getElem?_eq_getElem (show at_ + i < F.b.length by omega), Option.map_some]
  have hcl := clone_bytes (fun _ => True) (.slice (some ⟨pb, at_, none⟩) n n) _ w hsl (bytesV_one _) (by rw [bytesV_length, hl]; omega)
  have Hs := Lib.hid hs
  have Hc := Lib.hid hcl
  clear hs hcl hsl hl h hd hb hm
  go_enter Tryz.func71, Tryz.ntmps71
  go_wp2_with fail
  refine Hs.out.mono ?_
  rintro e w' ⟨rfl, rfl⟩
  go_wp2_with fail
  refine Hc.out.mono ?_
  rintro e w1 ⟨r, rfl, hr1, hb1⟩
  go_wp2
  go_ret2
  exact ⟨r, rfl, hr1, hb1⟩
end Go.Proofs.YtnaphhfmccbamaaGreatDoor

namespace Go.Proofs.YtnaphhfmccbamaaGreatDoor
open Go.RowKit

def FL.put (F : FL) (at_ : Nat) (d : List UInt8) : FL := { F with b := splice F.b at_ d }

theorem FlashAt.put_ {w w' : World} {p pb pw : Nat} {F : FL} (h : FlashAt w p pb pw F) (k : Kp (fun b => b = pb) w w') (cs : Array Value) (hcs : Blk w pb 5 cs) (at_ : Nat) (d : List UInt8)
    (hb : Blk w' pb 5 (splice cs.toList at_ (bytesV d)).toArray) (hfit : at_ + d.length ≤ F.b.length) : FlashAt w' p pb pw (F.put at_ d) := by
  obtain ⟨⟨cb, cw, h1, h2, hm⟩, ⟨cs0, hcs0, hc0⟩, ⟨cw0, hw0, hw1⟩⟩ := h
  obtain rfl : cs = cs0 := by
    unfold Blk at hcs hcs0
    rw [hcs] at hcs0
    injection hcs0 with e
    injection e with e1 e2
  have hsz : F.b.length ≤ cs.size := by
    rcases Nat.eq_zero_or_pos F.b.length with h0 | h0
    · omega
    · have := hc0 (F.b.length - 1) (by omega)
      have := (Array.getElem?_eq_some_iff.1 this).1
      omega
  have hlen : (F.put at_ d).b.length = F.b.length := by simp [FL.put, length_splice _ _ _ hfit]
  refine ⟨⟨cb, cw, by rw [hlen]; exact h1, h2, ?_⟩, ⟨_, hb, fun i hi => ?_⟩, ⟨cw0, hw0.kp k (Blk.ne_ hw0 hcs (by decide)), hw1⟩⟩
  · have := hm.kp k (Blk.ne_ hm hcs (by decide))
    unfold flCells at this ⊢
    rw [hlen]
    exact this
  · rw [hlen] at hi
    rw [List.getElem?_toArray, splice_get _ _ _ (by rw [bytesV_length]; simpa using (by omega : at_ + d.length ≤ cs.size))]
    have hget : (F.put at_ d).b[i]? = if i < at_ then F.b[i]? else if i < at_ + d.length then d[i - at_]? else F.b[i]? := splice_get _ _ _ hfit i
    rw [bytesV_length]
    have hcsi : cs.toList[i]? = some (byteV F.b[i]) := by simpa using hc0 i hi
    have hx : ((F.put at_ d).b[i]?).map byteV = some (byteV ((F.put at_ d).b[i]'(by omega))) := by rw [List.getElem?_eq_getElem (by omega)]; rfl
    rw [← hx, hget, hcsi]
    split
    · rw [List.getElem?_eq_getElem hi]; rfl
    · split
      · simp [bytesV]
      · rw [List.getElem?_eq_getElem hi]; rfl

/-- No bit of d turns a 0 of L into a 1. -/
def FitsBits (L : List UInt8) (at_ : Nat) (d : List UInt8) : Prop := ∀ i (h : i < d.length) (h' : at_ + i < L.length), bits .andNot .u8 ((d[i]).toNat : Int) ((L[at_ + i]).toNat : Int) = 0

set_option maxRecDepth 100000 in
theorem Program_ok (w : World) (p pb pw : Nat) (F : FL) (h : FlashAt w p pb pw F) (hd : F.down = false) (hf : F.fuse < 0) (at_ : Nat) (d : List UInt8) (hn : 0 < d.length) (hb : at_ + d.length ≤ F.b.length)
    (hm : F.b.length ≤ 4194304) (v : Value) (ok : Nat → Prop) (hv : Sl ok w v (bytesV d)) (hbits : FitsBits F.b at_ d) :
    Calls Tryz.prog 139 #[.pointer (some ⟨p, 0, none⟩), .int .i64 at_, v] w fun e w' =>
      e = .returned (.int .i64 0) ∧ FlashAt w' p pb pw (F.put at_ d) ∧ Kp (fun k => k = pb) w w' := by
  have hs := Lib.hid (span_ok w p pb pw F h hd at_ d.length hn hb hm)
  have ht := Lib.hid (torn_no w p pb pw F h hf d.length)
  obtain ⟨sb, so, c, rfl, hc, _, hlt, hcell⟩ := hv.form_pos (by rw [bytesV_length]; exact hn)
  rw [bytesV_length] at hc
  rw [bytesV_length]
  obtain ⟨cs, hbb, hcs⟩ := h.bytes
  have hown : ∀ i, i < d.length → w.cell? ⟨pb, at_ + i, none⟩ = some (.int .u8 ((F.b[at_ + i]?.getD 0).toNat)) := fun i hi => by
    rw [hbb.cell, hcs _ (by omega), List.getElem?_eq_getElem (by omega)]; rfl
  have hsrc : ∀ i, i < d.length → w.cell? ⟨sb, so + i, none⟩ = some (.int .u8 ((d[i]?.getD 0).toNat)) := fun i hi => by
    refine hcell i _ ?_
    simp [bytesV, byteV, List.getElem?_eq_getElem hi]
  have hbit : ∀ i, i < d.length → (bits .andNot .u8 ((d[i]?.getD 0).toNat : Int) ((F.b[at_ + i]?.getD 0).toNat : Int) != 0) = false := fun i hi => by
    rw [List.getElem?_eq_getElem hi, List.getElem?_eq_getElem (by omega), Option.getD_some, Option.getD_some, hbits i hi (by omega)]; rfl
  have hsz : F.b.length ≤ cs.size := by
    have := hcs (F.b.length - 1) (by omega)
    have := (Array.getElem?_eq_some_iff.1 this).1
    omega
  have HH := Lib.hid h
  have HB := Lib.hid hbb
  have HC := Lib.hid hcell
  have HO : Hid (∀ i, i < d.length → ∃ x y : Int, w.cell? ⟨pb, at_ + i, none⟩ = some (.int .u8 y) ∧ w.cell? ⟨sb, so + i, none⟩ = some (.int .u8 x) ∧ (bits .andNot .u8 x y != 0) = false) :=
    Lib.hid fun i hi => ⟨_, _, hown i hi, hsrc i hi, hbit i hi⟩
  clear hv hbits h hbb hcs hd hcell hown hsrc hbit
  go_enter Tryz.func139, Tryz.ntmps139
  go_wp2_with fail
  refine hs.out.mono ?_
  rintro e w' ⟨rfl, rfl⟩
  go_wp2_with fail
  go_loop [26] (fun i => ∃ k : Nat, k ≤ d.length ∧ i = .int .i64 k) (fun i => d.length - (intOf i).toNat)
  case atStart => exact ⟨0, Nat.zero_le _, rfl⟩
  case round =>
    obtain ⟨k, hk, rfl⟩ := hrel
    by_cases hlt2 : k < d.length
    · obtain ⟨x, y, h1, h2, h3⟩ := HO.out k hlt2
      go_wp2
      go_round
      case rel => exact ⟨k + 1, by omega, by go_num⟩
      case measure => simp [intOf]; omega
    · obtain rfl : k = d.length := by omega
      go_wp2_with fail
      refine ht.out.mono ?_
      rintro e w' ⟨rfl, rfl⟩
      go_wp2_with (with_reducible refine wpList_copy_blk rfl (.tmp 46) (.tmp 49) 31 31 rfl 5 Tryz.underlying31 ?hu pb at_ d.length d.length ⟨sb, so, none⟩ d.length c ?ha ?hb cs 5 HB.out (bytesV d) ?hn ?hsrc ?hfit (bytesV_one _) ?_)
      case hu => kernel_rfl
      case ha => rfl
      case hb => rfl
      case hn => simp
      case hsrc =>
        intro j u hu
        have : (⟨sb, so, none⟩ : Addr).add j = ⟨sb, so + j, none⟩ := by
          unfold Addr.add
          split
          · rename_i h0; subst h0; rfl
          · rfl
        rw [this]
        exact HC.out j u hu
      case hfit => rw [bytesV_length]; omega
      intro w1 hb1 hk1
      have Hb1 := Lib.hid hb1
      clear hb1
      go_wp2
      go_ret
      exact ⟨rfl, HH.out.put_ hk1 cs HB.out at_ d Hb1.out hb, hk1⟩
end Go.Proofs.YtnaphhfmccbamaaGreatDoor

namespace Go.Proofs.YtnaphhfmccbamaaGreatDoor
open Go.RowKit

theorem addr_add0 (g i : Nat) : (⟨g, 0, none⟩ : Addr).add i = ⟨g, i, none⟩ := by
  unfold Addr.add
  split
  · rename_i h; subst h; rfl
  · simp
theorem ff_start (cs0 : Array Value) (h : 0 < cs0.size) : Hid ((splice cs0.toList 0 [Value.int .u8 255]).toArray.size = cs0.size) ∧ Hid (∀ i, i < 1 → (splice cs0.toList 0 [Value.int .u8 255]).toArray[i]? = some (.int .u8 255)) := by
  have hl := length_splice cs0.toList 0 [Value.int .u8 255] (by simp only [List.length_singleton, Array.length_toList]; omega)
  refine ⟨Lib.hid (by simpa using hl), Lib.hid fun i hi => ?_⟩
  obtain rfl : i = 0 := by omega
  simp [splice]
theorem ff_step (cs : Array Value) (k q : Nat) (h : k + q ≤ cs.size) (hk : ∀ i, i < k → cs[i]? = some (.int .u8 255)) :
    Hid ((splice cs.toList k (List.replicate q (Value.int .u8 255))).toArray.size = cs.size) ∧ Hid (∀ i, i < k + q → (splice cs.toList k (List.replicate q (Value.int .u8 255))).toArray[i]? = some (.int .u8 255)) := by
  have hl := length_splice cs.toList k (List.replicate q (Value.int .u8 255)) (by simpa using h)
  refine ⟨Lib.hid (by simpa using hl), Lib.hid fun i hi => ?_⟩
  rw [List.getElem?_toArray, splice_get _ _ _ (by simpa using h)]
  split
  · simpa using hk i (by assumption)
  · rw [if_pos (by simpa using hi), List.getElem?_replicate, if_pos (by omega)]

set_option maxRecDepth 100000 in
theorem repeat_ff (n : Nat) (h1 : 1 ≤ n) (hm : n ≤ 4194304) (w : World) (g0 c0 : Nat) (hg0 : Blk w g0 5 #[.int .u8 255]) :
    Calls Tryz.prog 42 #[.slice (some ⟨g0, 0, none⟩) 1 c0, .int .i64 n] w fun e w' => ∃ g c cs, e = .returned (.slice (some ⟨g, 0, none⟩) n c) ∧ n ≤ c ∧ w.heap.size ≤ g ∧
      Blk w' g 5 cs ∧ (∀ i, i < n → cs[i]? = some (.int .u8 255)) ∧ Below w.heap.size w w' := by
  obtain ⟨cs0, hrunM, hle, hmax⟩ := Lib.run_makeNoZero (P := Tryz.prog) w #[3] 31 5 Tryz.underlying31 n (by omega)
  have hMul0 := Tryz.bits_Mul 1 n (by omega) (by omega) w
  rw [Nat.one_mul, Nat.div_eq_of_lt (by omega), Nat.mod_eq_of_lt (by omega)] at hMul0
  have hMul := Lib.hid hMul0
  clear hMul0
  have hsrc := hg0.cell 0
  have hlt0 := hg0.lt
  have t0 : ((n : Int) == 0) = false := beq_eq_false_iff_ne.2 (by omega)
  have t1 : decide ((n : Int) < 0) = false := decide_eq_false (by omega)
  have hcall : (callFunc 70 #[.int .i64 (n : Int)]).run Tryz.prog w = .ok (.value (.slice (some ⟨w.heap.size, 0, none⟩) n cs0.size)) ((w.alloc (.cells cs0 5)).drewN 2) := by
    rw [run_callFunc_extern Tryz.func70 (by kernel_rfl) (by kernel_rfl) (by kernel_rfl) (e := Extern.BytealgMakeNoZero.makeNoZero #[3] #[31]) (by kernel_rfl), hrunM]
    rfl
  clear hrunM
  have t2 : decide ((9223372036854775807 : Int) < n) = false := decide_eq_false (by omega)
  have hcl : (n : Int) ≤ (cs0.size : Int) := by omega
  obtain ⟨m, hm1, hm2, hmm⟩ : ∃ m : Nat, 1 ≤ m ∧ m ≤ 8192 ∧ (if 8192 < n then (8192 : Nat) else n) = m := ⟨_, by split <;> omega, by split <;> omega, rfl⟩
  have Hmm := Lib.hid hmm
  clear hmm
  by_cases hbig : 8192 < n
  · have t3 : decide ((8192 : Int) < n) = true := decide_eq_true (by omega)
    obtain rfl : 8192 = m := by have := Hmm.out; rwa [if_pos hbig] at this
    go_enter Tryz.func42, Tryz.ntmps42
    go_wp2_with fail
    refine hMul.out.mono ?_
    rintro e w' ⟨rfl, hw⟩
    obtain rfl : w = w' := hw.symm
    go_wp2_with (with_reducible refine wpList_copy_blk rfl (.tmp 58) (.tmp 59) 31 31 rfl 5 Tryz.underlying31 ?hu w.heap.size 0 n n ⟨g0, 0, none⟩ 1 c0 ?ha ?hb cs0 5 ?hg [.int .u8 255] ?hn ?hsrc ?hfit ?h1 ?_)
    case hu => kernel_rfl
    case ha => rfl
    case hb => rfl
    case hg => exact (Blk.new w 5 cs0).drewN 2
    case hn => exact (Nat.min_eq_left h1).symm
    case hsrc =>
      intro j u hu
      have hj : j = 0 := by
        have := (List.getElem?_eq_some_iff.1 hu).1
        simpa using this
      subst hj
      have hc := ((hg0.alloc (.cells cs0 5)).drewN 2).cell 0
      simp at hu
      subst hu
      exact hc
    case hfit => simp; omega
    case h1 => intro u hu; simp at hu; subst hu; rfl
    intro w1 hb1 hk1
    have hbel : Below w.heap.size w w1 := by
      have k0 : Kp (fun _ => False) w ((w.alloc (.cells cs0 5)).drewN 2) := ((Kp.refl _ w).alloc _).drewN 2
      exact (k0.trans hk1 (fun k hk hlt => by omega)).below
    have hI := ff_start cs0 (by omega)
    have Hb1 := Lib.hid hb1
    clear hb1 hcall hk1
    go_wp2
    go_loopw [10] (fun i wr => ∃ (k : Nat) (cs : Array Value), 1 ≤ k ∧ k ≤ n ∧ i = .int .i64 k ∧ Hid (cs.size = cs0.size) ∧ Hid (Blk wr w.heap.size 5 cs) ∧ Hid (∀ i, i < k → cs[i]? = some (.int .u8 255)) ∧ Below w.heap.size w wr) (fun i _ => n - (intOf i).toNat)
    case atStart => exact ⟨1, _, by omega, by omega, rfl, hI.1, Hb1, hI.2, hbel⟩
    case round =>
      obtain ⟨k, cs, hk1, hk2, rfl, HS, HB, HF, hbl⟩ := hrel
      by_cases hlt : k < n
      · obtain ⟨j, hj, hj1, hj2⟩ : ∃ j : Nat, min (k : Int) 8192 = (j : Int) ∧ 1 ≤ j ∧ j ≤ k := ⟨min k 8192, by omega, by omega, by omega⟩
        obtain ⟨q, hq, hq1, hq2, hq3⟩ : ∃ q : Nat, Nat.min j (n - k) = q ∧ 1 ≤ q ∧ k + q ≤ n ∧ q ≤ j := ⟨min j (n - k), rfl, by omega, by omega, by omega⟩
        have hjn : (j : Int) ≤ (n : Int) := by omega
        have hjn' : j ≤ n := by omega
        have HBd : Blk wr.drew w.heap.size 5 cs := HB.out
        have hss : n ≤ cs.size := by have := HS.out; omega
        have hn1 : (List.replicate q (Value.int .u8 255)).length = Nat.min j (n - k) := by rw [List.length_replicate, hq]
        have hf1 : k + (List.replicate q (Value.int .u8 255)).length ≤ cs.size := by rw [List.length_replicate]; omega
        have hs1 : ∀ i v, (List.replicate q (Value.int .u8 255))[i]? = some v → wr.drew.cell? ((⟨w.heap.size, 0, none⟩ : Addr).add i) = some v := fun i v hv => by
          obtain ⟨hi, hv'⟩ := List.getElem?_eq_some_iff.1 hv
          rw [List.length_replicate] at hi
          rw [List.getElem_replicate] at hv'
          subst hv'
          rw [addr_add0]
          exact (HBd.cell i).trans (HF.out i (by omega))
        have hu1 : ∀ v ∈ List.replicate q (Value.int .u8 255), v.oneCell' = true := fun v hv => by rw [List.eq_of_mem_replicate hv]; rfl
        have hnk : ¬ n = k := by omega
        have hwq : IntKind.i64.wrap ((k : Int) + (q : Int)) = ((k + q : Nat) : Int) := by rw [IntKind.wrap_i64]; omega
        go_wp2
        go_region_law ((refine step_copy_blk rfl (.tmp 70) (.tmp 73) 31 31 rfl 5 Tryz.underlying31 (by kernel_rfl) w.heap.size k (n - k) (n - k) ⟨w.heap.size, 0, none⟩ j n ?_ ?_ cs 5 HBd (List.replicate q (Value.int .u8 255)) hn1 hs1 hf1 hu1 ?_); (go_simp); (go_simp); (intro w2 hb2 hk2))
        have hbl2 : Below w.heap.size w w2 := by
          have k0 : Kp (fun _ => False) w wr.drew := (Kp.of_below hbl _).drew
          exact (k0.trans hk2 (fun b hb hlt => by omega)).below
        have hI := ff_step cs k q (by omega) HF.out
        have Hb2 := Lib.hid hb2
        clear hb2 HBd hn1 hf1 hs1 hu1 hj hk2
        go_simp
        go_wp2
        go_roundw
        case rel => exact ⟨k + q, _, by omega, by omega, by go_num, Lib.hid (hI.1.out.trans HS.out), Hb2, hI.2, hbl2⟩
        case measure => simp [intOf]; omega
      · obtain rfl : k = n := by omega
        go_wp2
        go_ret
        exact ⟨w.heap.size, k, cs, rfl, Nat.le_refl _, Nat.le_refl _, HB.out, HF.out, hbl⟩
  · have t3 : decide ((8192 : Int) < n) = false := decide_eq_false (by omega)
    obtain rfl : n = m := by have := Hmm.out; rwa [if_neg hbig] at this
    go_enter Tryz.func42, Tryz.ntmps42
    go_wp2_with fail
    refine hMul.out.mono ?_
    rintro e w' ⟨rfl, hw⟩
    obtain rfl : w = w' := hw.symm
    go_wp2_with (with_reducible refine wpList_copy_blk rfl (.tmp 58) (.tmp 59) 31 31 rfl 5 Tryz.underlying31 ?hu w.heap.size 0 n n ⟨g0, 0, none⟩ 1 c0 ?ha ?hb cs0 5 ?hg [.int .u8 255] ?hn ?hsrc ?hfit ?h1 ?_)
    case hu => kernel_rfl
    case ha => rfl
    case hb => rfl
    case hg => exact (Blk.new w 5 cs0).drewN 2
    case hn => exact (Nat.min_eq_left h1).symm
    case hsrc =>
      intro j u hu
      have hj : j = 0 := by
        have := (List.getElem?_eq_some_iff.1 hu).1
        simpa using this
      subst hj
      have hc := ((hg0.alloc (.cells cs0 5)).drewN 2).cell 0
      simp at hu
      subst hu
      exact hc
    case hfit => simp; omega
    case h1 => intro u hu; simp at hu; subst hu; rfl
    intro w1 hb1 hk1
    have hbel : Below w.heap.size w w1 := by
      have k0 : Kp (fun _ => False) w ((w.alloc (.cells cs0 5)).drewN 2) := ((Kp.refl _ w).alloc _).drewN 2
      exact (k0.trans hk1 (fun k hk hlt => by omega)).below
    have hI := ff_start cs0 (by omega)
    have Hb1 := Lib.hid hb1
    clear hb1 hcall hk1
    go_wp2
    go_loopw [10] (fun i wr => ∃ (k : Nat) (cs : Array Value), 1 ≤ k ∧ k ≤ n ∧ i = .int .i64 k ∧ Hid (cs.size = cs0.size) ∧ Hid (Blk wr w.heap.size 5 cs) ∧ Hid (∀ i, i < k → cs[i]? = some (.int .u8 255)) ∧ Below w.heap.size w wr) (fun i _ => n - (intOf i).toNat)
    case atStart => exact ⟨1, _, by omega, by omega, rfl, hI.1, Hb1, hI.2, hbel⟩
    case round =>
      obtain ⟨k, cs, hk1, hk2, rfl, HS, HB, HF, hbl⟩ := hrel
      by_cases hlt : k < n
      · obtain ⟨j, hj, hj1, hj2⟩ : ∃ j : Nat, min (k : Int) n = (j : Int) ∧ 1 ≤ j ∧ j ≤ k := ⟨min k n, by omega, by omega, by omega⟩
        obtain ⟨q, hq, hq1, hq2, hq3⟩ : ∃ q : Nat, Nat.min j (n - k) = q ∧ 1 ≤ q ∧ k + q ≤ n ∧ q ≤ j := ⟨min j (n - k), rfl, by omega, by omega, by omega⟩
        have hjn : (j : Int) ≤ (n : Int) := by omega
        have hjn' : j ≤ n := by omega
        have HBd : Blk wr.drew w.heap.size 5 cs := HB.out
        have hss : n ≤ cs.size := by have := HS.out; omega
        have hn1 : (List.replicate q (Value.int .u8 255)).length = Nat.min j (n - k) := by rw [List.length_replicate, hq]
        have hf1 : k + (List.replicate q (Value.int .u8 255)).length ≤ cs.size := by rw [List.length_replicate]; omega
        have hs1 : ∀ i v, (List.replicate q (Value.int .u8 255))[i]? = some v → wr.drew.cell? ((⟨w.heap.size, 0, none⟩ : Addr).add i) = some v := fun i v hv => by
          obtain ⟨hi, hv'⟩ := List.getElem?_eq_some_iff.1 hv
          rw [List.length_replicate] at hi
          rw [List.getElem_replicate] at hv'
          subst hv'
          rw [addr_add0]
          exact (HBd.cell i).trans (HF.out i (by omega))
        have hu1 : ∀ v ∈ List.replicate q (Value.int .u8 255), v.oneCell' = true := fun v hv => by rw [List.eq_of_mem_replicate hv]; rfl
        have hnk : ¬ n = k := by omega
        have hwq : IntKind.i64.wrap ((k : Int) + (q : Int)) = ((k + q : Nat) : Int) := by rw [IntKind.wrap_i64]; omega
        go_wp2
        go_region_law ((refine step_copy_blk rfl (.tmp 70) (.tmp 73) 31 31 rfl 5 Tryz.underlying31 (by kernel_rfl) w.heap.size k (n - k) (n - k) ⟨w.heap.size, 0, none⟩ j n ?_ ?_ cs 5 HBd (List.replicate q (Value.int .u8 255)) hn1 hs1 hf1 hu1 ?_); (go_simp); (go_simp); (intro w2 hb2 hk2))
        have hbl2 : Below w.heap.size w w2 := by
          have k0 : Kp (fun _ => False) w wr.drew := (Kp.of_below hbl _).drew
          exact (k0.trans hk2 (fun b hb hlt => by omega)).below
        have hI := ff_step cs k q (by omega) HF.out
        have Hb2 := Lib.hid hb2
        clear hb2 HBd hn1 hf1 hs1 hu1 hj hk2
        go_simp
        go_wp2
        go_roundw
        case rel => exact ⟨k + q, _, by omega, by omega, by go_num, Lib.hid (hI.1.out.trans HS.out), Hb2, hI.2, hbl2⟩
        case measure => simp [intOf]; omega
      · obtain rfl : k = n := by omega
        go_wp2
        go_ret
        exact ⟨w.heap.size, k, cs, rfl, Nat.le_refl _, Nat.le_refl _, HB.out, HF.out, hbl⟩

theorem flash_mk {W : World} {p pb pw g0 g1 g2 G c : Nat} {cs zs : Array Value} (hG : G = g0 * g1) (hc : G ≤ c)
    (h : Blk W p 93 #[.int .i64 g0, .int .i64 g1, .int .i64 g2, .slice (some ⟨pb, 0, none⟩) G c, .slice (some ⟨pw, 0, none⟩) g0 g0, .bool false, .int .i64 (-1), .int .i64 0, .int .u8 0])
    (hb : Blk W pb 5 cs) (hff : ∀ i, i < G → cs[i]? = some (.int .u8 255)) (hw : Blk W pw 3 zs) (hz : ∀ i, i < g0 → zs[i]? = some (.int .i64 0)) :
    FlashAt W p pb pw ⟨g0, g1, g2, List.replicate (g0 * g1) 255, List.replicate g0 0, false, -1, 0, 0⟩ := by
  subst hG
  refine ⟨⟨c, g0, by simpa using hc, by simp, ?_⟩, ⟨cs, hb, fun i hi => ?_⟩, ⟨zs, hw, fun i hi => ?_⟩⟩
  · simpa [flCells] using h
  · rw [hff i (by simpa using hi)]
    simp [byteV]
  · rw [hz i (by simpa using hi)]
    simp
theorem geoS {W : World} {n : Nat} {a b c : Value} (h : Blk W n 70 #[a, b, c]) :
    Blk W n 70 #[a, b, c] ∧ W.cell? ⟨n, 0, none⟩ = some a ∧ W.cell? ⟨n, 1, none⟩ = some b ∧ W.cell? ⟨n, 2, none⟩ = some c := ⟨h, h.cell 0, h.cell 1, h.cell 2⟩

set_option maxRecDepth 100000 in
set_option maxHeartbeats 4000000 in
theorem New_ok (g0 g1 g2 : Nat) (h0 : 1 ≤ g0 ∧ g0 ≤ 64) (h1 : 64 ≤ g1 ∧ g1 ≤ 65536) (h2 : 1 ≤ g2 ∧ g2 ≤ 1048576) (w : World) :
    Calls Tryz.prog 24 #[.agg #[.int .i64 g0, .int .i64 g1, .int .i64 g2]] w fun e w' => ∃ p pb pw, e = .returned (.tuple #[.pointer (some ⟨p, 0, none⟩), .int .i64 0]) ∧ w.heap.size ≤ p ∧ w.heap.size ≤ pb ∧ w.heap.size ≤ pw ∧
      FlashAt w' p pb pw ⟨g0, g1, g2, List.replicate (g0 * g1) 255, List.replicate g0 0, false, -1, 0, 0⟩ ∧ Below w.heap.size w w' := by
  have t1 : decide ((1 : Int) ≤ g0) = true := decide_eq_true (by omega)
  have t2 : decide ((g0 : Int) ≤ 64) = true := decide_eq_true (by omega)
  have t3 : decide ((64 : Int) ≤ g1) = true := decide_eq_true (by omega)
  have t4 : decide ((g1 : Int) ≤ 65536) = true := decide_eq_true (by omega)
  have t5 : decide ((1 : Int) ≤ g2) = true := decide_eq_true (by omega)
  have t6 : decide ((g2 : Int) ≤ 1048576) = true := decide_eq_true (by omega)
  obtain ⟨i0, hi, hz0, hz1, hz2⟩ := info_parts info_int
  obtain ⟨zs, hzs, hz, hmk⟩ := make_zeros (P := Tryz.prog) 76 3 i0 (.int .i64 0) Tryz.underlying76 hi hz0 hz1 rfl g0 (by rw [hz2]; omega) (by omega)
  clear hi hz0 hz1 hz2
  have HZ := Lib.hid hz
  have HZS := Lib.hid hzs
  obtain ⟨G, hG, hG1, hG2, hG3⟩ : ∃ G : Nat, G = g0 * g1 ∧ 1 ≤ G ∧ G ≤ 4194304 ∧ IntKind.i64.wrap ((g0 : Int) * (g1 : Int)) = (G : Int) := by
    have a1 : 1 * 64 ≤ g0 * g1 := Nat.mul_le_mul h0.1 h1.1
    have a2 : g0 * g1 ≤ 64 * 65536 := Nat.mul_le_mul h0.2 h1.2
    refine ⟨g0 * g1, rfl, by omega, by omega, ?_⟩
    rw [← Int.natCast_mul, IntKind.wrap_i64]
    omega
  have HG := Lib.hid hG
  clear hG hz hzs
  go_enter Tryz.func24, Tryz.ntmps24
  go_wp2
  go_region_held3 (fun w' => Blk w' w.heap.size 70 #[.int .i64 g0, .int .i64 g1, .int .i64 g2] ∧ w'.cell? ⟨w.heap.size, 0, none⟩ = some (.int .i64 g0) ∧ w'.cell? ⟨w.heap.size, 1, none⟩ = some (.int .i64 g1) ∧ w'.cell? ⟨w.heap.size, 2, none⟩ = some (.int .i64 g2))
    (first
      | ((refine geoS ?_); (repeat (first | (with_reducible assumption) | (with_reducible exact Blk.at_top rfl) | (with_reducible refine Blk.drew ?_) | (with_reducible refine Blk.alloc ?_ _) | (with_reducible refine Blk.kp ?_ (Kp.of_below hb1 (fun _ => False)) (fun x => x)))); done))
    (first
      | (go_at_call 42; refine (repeat_ff G hG1 hG2 _ _ _ ?_).mono ?_; (repeat (first | (with_reducible exact Blk.at_top (by simp)) | (with_reducible refine Blk.drew ?_) | (with_reducible refine Blk.alloc ?_ _))); rintro e w1 ⟨g, c, cs, rfl, hc, hg, hb, hff, hb1⟩))
  all_goals
    go_wp2
    go_ret2
    have hsz := hb1.size
    simp at hsz hg
    have Hff := Lib.hid hff
    clear hff
  · refine ⟨_, g, w1.heap.size, rfl, ?_, ?_, ?_, flash_mk HG.out hc (Blk.at_top (by simp)) ?_ Hff.out ?_ HZ.out, ?_⟩
    · omega
    · omega
    · omega
    · exact (hb.alloc _).alloc _
    · exact Blk.alloc (Blk.at_top rfl) _
    · exact (((((((Kp.refl _ w).alloc _).alloc _).drew.trans (Kp.of_below hb1 (fun _ => False)) (fun _ h _ => h))).alloc _).alloc _).below
  · refine ⟨_, g, w.heap.size + 2, rfl, ?_, ?_, ?_, flash_mk HG.out hc (Blk.at_top (by simp)) ?_ Hff.out ?_ HZ.out, ?_⟩
    · omega
    · omega
    · omega
    · exact hb.alloc _
    · exact Blk.alloc (Blk.kp (Blk.drew (Blk.at_top (by simp))) (Kp.of_below hb1 (fun _ => False)) (fun x => x)) _
    · exact (((((((Kp.refl _ w).alloc _).alloc _).alloc _).drew.trans (Kp.of_below hb1 (fun _ => False)) (fun _ h _ => h))).alloc _).below
  · refine ⟨_, g, w.heap.size + 1, rfl, ?_, ?_, ?_, flash_mk HG.out hc (Blk.at_top (by simp)) ?_ Hff.out ?_ HZ.out, ?_⟩
    · omega
    · omega
    · omega
    · exact hb.alloc _
    · exact Blk.alloc (Blk.kp (Blk.drew (Blk.alloc (Blk.at_top (by simp)) _)) (Kp.of_below hb1 (fun _ => False)) (fun x => x)) _
    · exact (((((((Kp.refl _ w).alloc _).alloc _).alloc _).drew.trans (Kp.of_below hb1 (fun _ => False)) (fun _ h _ => h))).alloc _).below
end Go.Proofs.YtnaphhfmccbamaaGreatDoor

namespace Go.Proofs.YtnaphhfmccbamaaGreatDoor
open Go.RowKit

def iterI (f : Int → Int) : Nat → Int → Int
  | 0, x => x
  | n + 1, x => f (iterI f n x)

theorem bits_u16 (op : BinOp) (x y : Int) : 0 ≤ bits op .u16 x y ∧ bits op .u16 x y < 65536 := by
  have h := wf_bits op .u16 x y
  simp only [Lit.wf, Bool.and_eq_true, decide_eq_true_eq] at h
  have h1 : IntKind.u16.min = 0 := by decide
  have h2 : IntKind.u16.max = 65535 := by decide
  rw [h1, h2] at h
  omega
theorem bits_u32 (op : BinOp) (x y : Int) : 0 ≤ bits op .u32 x y ∧ bits op .u32 x y < 4294967296 := by
  have h := wf_bits op .u32 x y
  simp only [Lit.wf, Bool.and_eq_true, decide_eq_true_eq] at h
  have h1 : IntKind.u32.min = 0 := by decide
  have h2 : IntKind.u32.max = 4294967295 := by decide
  rw [h1, h2] at h
  omega
theorem bits_u8 (op : BinOp) (x y : Int) : 0 ≤ bits op .u8 x y ∧ bits op .u8 x y < 256 := by
  have h := wf_bits op .u8 x y
  simp only [Lit.wf, Bool.and_eq_true, decide_eq_true_eq] at h
  have h1 : IntKind.u8.min = 0 := by decide
  have h2 : IntKind.u8.max = 255 := by decide
  rw [h1, h2] at h
  omega

def step16 (x : Int) : Int := bits .xor .u16 (IntKind.u16.wrap (x * 2)) (bits .and .u16 4129 (IntKind.u16.wrap (-(x / 32768))))
def tab16 (k : Nat) : Int := iterI step16 8 ((k : Int) * 256)

theorem iter16 (k q : Nat) (hk : k < 256) : 0 ≤ iterI step16 q ((k : Int) * 256) ∧ iterI step16 q ((k : Int) * 256) < 65536 := by
  cases q with
  | zero => simp only [iterI]; omega
  | succ q => unfold iterI step16; exact bits_u16 _ _ _

theorem tab_put (cs : Array Value) (f : Nat → Value) (k : Nat) (hs : cs.size = 256) (hk : k < 256) (h : ∀ i, i < k → cs[i]? = some (f i)) :
    (cs.setIfInBounds k (f k)).size = 256 ∧ ∀ i, i < k + 1 → (cs.setIfInBounds k (f k))[i]? = some (f i) := by
  refine ⟨by simpa using hs, fun i hi => ?_⟩
  rw [Array.getElem?_setIfInBounds]
  by_cases e : k = i
  · subst e; simp [hs, hk]
  · rw [if_neg e]; exact h i (by omega)

theorem all_one (cs : Array Value) (f : Nat → Value) (hs : cs.size = 256) (h : ∀ i, i < 256 → cs[i]? = some (f i)) (h1 : ∀ i, i < 256 → (f i).oneCell' = true) : cs.all (·.oneCell') = true := by
  rw [Array.all_eq_true]
  intro i hi
  have := h i (by omega)
  rw [Array.getElem?_eq_getElem hi] at this
  injection this with this
  rw [this]
  exact h1 i (by omega)
set_option maxRecDepth 100000 in
theorem up_any (w : World) : Calls Tryz.prog 155 #[] w fun e w' => ∃ cs : Array Value, e = .returned (.agg cs) ∧ cs.size = 256 ∧ (∀ i, i < 256 → cs[i]? = some (.int .u16 (tab16 i))) ∧ Below w.heap.size w w' := by
  have hz : Tryz.zeroCells237.size = 256 := by kernel_rfl
  have HZ := Lib.hid hz
  clear hz
  go_enter Tryz.func155, Tryz.ntmps155
  go_wp2_with fail
  go_loopw [4] (fun i wr => ∃ (k : Nat) (cs : Array Value), k ≤ 256 ∧ i = .int .i64 k ∧ Hid (cs.size = 256) ∧ Hid (∀ i, i < k → cs[i]? = some (.int .u16 (tab16 i))) ∧ Hid (∃ cz : Array Value, cz.size = 256 ∧ Blk wr w.heap.size 237 cz) ∧ Hid (Blk wr (w.heap.size + 1) 237 cs) ∧ Below w.heap.size w wr) (fun i _ => 256 - (intOf i).toNat)
  case atStart => exact ⟨0, _, by omega, rfl, HZ, Lib.hid (fun i hi => absurd hi (by omega)), Lib.hid ⟨_, HZ.out, (Blk.at_top rfl).alloc _⟩, Lib.hid (Blk.at_top (by simp)), (((Kp.refl (fun _ => False) w).alloc _).alloc _).below⟩
  case round =>
    obtain ⟨k, cs, hk, rfl, HS, HT, HC, HB, hbl⟩ := hrel
    by_cases hlt : k < 256
    · go_wp2_with fail
      go_loop [3, 10] (fun s j => ∃ (q : Nat), q ≤ 8 ∧ j = .int .i64 q ∧ s = .int .u16 (iterI step16 q ((k : Int) * 256))) (fun _ j => 8 - (intOf j).toNat)
      case atStart => exact ⟨0, by omega, rfl, rfl⟩
      case round =>
        obtain ⟨q, hq, rfl, rfl⟩ := hrel
        obtain ⟨x, hx, hx0, hx1⟩ : ∃ x, iterI step16 q ((k : Int) * 256) = x ∧ 0 ≤ x ∧ x < 65536 := ⟨_, rfl, (iter16 k q hlt).1, (iter16 k q hlt).2⟩
        rw [hx]
        have HX := Lib.hid hx
        clear hx
        by_cases hlt2 : q < 8
        · go_wp2
          go_round
          case rel => exact ⟨q + 1, by omega, by go_num, by rw [← HX.out]; rfl⟩
          case measure => simp [intOf]; omega
        · obtain rfl : q = 8 := by omega
          have hcell : wr.cell? ⟨w.heap.size + 1, k, none⟩ = some (cs[k]'(by rw [HS.out]; exact hlt)) := by rw [HB.out.cell, Array.getElem?_eq_getElem]
          have hfr := HB.out.frozen k
          have R := tab_put cs (fun i => .int .u16 (tab16 i)) k HS.out hlt HT.out
          have HR1 := Lib.hid R.1
          have HR2 := Lib.hid R.2
          have hxt : tab16 k = x := HX.out
          have HB2 : Hid (Blk (wr.setCell ⟨w.heap.size + 1, k, none⟩ (.int .u16 x)) (w.heap.size + 1) 237 (cs.setIfInBounds k (.int .u16 (tab16 k)))) := by rw [hxt]; exact HB.out.set_ k _
          have HC2 : Hid (∃ cz : Array Value, cz.size = 256 ∧ Blk (wr.setCell ⟨w.heap.size + 1, k, none⟩ (.int .u16 x)) w.heap.size 237 cz) := by
            obtain ⟨cz, h1, h2⟩ := HC.out
            exact ⟨cz, h1, h2.far (by simp) _⟩
          have hbl2 : Below w.heap.size w (wr.setCell ⟨w.heap.size + 1, k, none⟩ (.int .u16 x)) := hbl.setCell (by simp) _
          clear R hxt
          go_wp2
          go_roundw
          case rel => exact ⟨k + 1, _, by omega, by go_num, HR1, HR2, HC2, HB2, hbl2⟩
          case measure => simp [intOf]; omega
    · obtain rfl : k = 256 := by omega
      obtain ⟨cz, hcz, hbz⟩ := HC.out
      go_wp2_with (first
        | (with_reducible refine wpList_load_row rfl 237 (.tmp 1) rfl (w.heap.size + 1) ?hx 237 cs (0, 0) (.array 256 174) ?hg Tryz.underlying237 ?hd ?hs ?_)
        | (with_reducible refine wpList_store_row rfl 237 (.tmp 0) (.tmp 24) rfl w.heap.size cs ?kx ?ky 237 cz ?kg ?ks ?ks3 ?k1 ?_))
      case hs => rw [HS.out]; kernel_rfl
      case ks => rw [HS.out]; kernel_rfl
      case ks3 => rw [hcz, HS.out]
      case k1 => exact all_one cs _ HS.out HT.out (fun _ _ => rfl)
      case hx => rfl
      case hg => exact HB.out
      case h_2 => rfl
      case h_3 => rfl
      case kg => exact hbz
      have hfin : (wr.setRow w.heap.size cs).heap[w.heap.size]? = some (.cells cs 237 (0, 0)) := setRow_heap wr w.heap.size _ _ _ _ hbz
      have hbl2 : Below w.heap.size w (wr.setRow w.heap.size cs) := below_setRow hbl (Nat.le_refl _) cs
      refine bodyPost_ret (v := .agg cs) ?res rfl ?post
      case res =>
        refine results_cell_row rfl _ _ w.heap.size _ cs (0, 0) (.array 256 174) ?hp hfin Tryz.underlying237 ?hd2 ?hs2
        case hp => rfl
        case hd2 => rfl
        case hs2 => rw [HS.out]; kernel_rfl
      case post => exact ⟨cs, rfl, HS.out, HT.out, hbl2⟩

def step32 (x : Int) : Int := bits .xor .u32 (x / 2) (bits .and .u32 2197175160 (IntKind.u32.wrap (-(bits .and .u32 x 1))))
def tab32 (k : Nat) : Int := iterI step32 8 (k : Int)
theorem iter32 (k q : Nat) (hk : k < 256) : 0 ≤ iterI step32 q (k : Int) ∧ iterI step32 q (k : Int) < 4294967296 := by
  cases q with
  | zero => simp only [iterI]; omega
  | succ q => unfold iterI step32; exact bits_u32 _ _ _
set_option maxRecDepth 100000 in
theorem down_any (w : World) : Calls Tryz.prog 173 #[] w fun e w' => ∃ cs : Array Value, e = .returned (.agg cs) ∧ cs.size = 256 ∧ (∀ i, i < 256 → cs[i]? = some (.int .u32 (tab32 i))) ∧ Below w.heap.size w w' := by
  have hz : Tryz.zeroCells253.size = 256 := by kernel_rfl
  have HZ := Lib.hid hz
  clear hz
  go_enter Tryz.func173, Tryz.ntmps173
  go_wp2_with fail
  go_loopw [4] (fun i wr => ∃ (k : Nat) (cs : Array Value), k ≤ 256 ∧ i = .int .i64 k ∧ Hid (cs.size = 256) ∧ Hid (∀ i, i < k → cs[i]? = some (.int .u32 (tab32 i))) ∧ Hid (∃ cz : Array Value, cz.size = 256 ∧ Blk wr w.heap.size 253 cz) ∧ Hid (Blk wr (w.heap.size + 1) 253 cs) ∧ Below w.heap.size w wr) (fun i _ => 256 - (intOf i).toNat)
  case atStart => exact ⟨0, _, by omega, rfl, HZ, Lib.hid (fun i hi => absurd hi (by omega)), Lib.hid ⟨_, HZ.out, (Blk.at_top rfl).alloc _⟩, Lib.hid (Blk.at_top (by simp)), (((Kp.refl (fun _ => False) w).alloc _).alloc _).below⟩
  case round =>
    obtain ⟨k, cs, hk, rfl, HS, HT, HC, HB, hbl⟩ := hrel
    by_cases hlt : k < 256
    · go_wp2_with fail
      go_loop [3, 9] (fun s j => ∃ (q : Nat), q ≤ 8 ∧ j = .int .i64 q ∧ s = .int .u32 (iterI step32 q (k : Int))) (fun _ j => 8 - (intOf j).toNat)
      case atStart => exact ⟨0, by omega, rfl, rfl⟩
      case round =>
        obtain ⟨q, hq, rfl, rfl⟩ := hrel
        obtain ⟨x, hx, hx0, hx1⟩ : ∃ x, iterI step32 q (k : Int) = x ∧ 0 ≤ x ∧ x < 4294967296 := ⟨_, rfl, (iter32 k q hlt).1, (iter32 k q hlt).2⟩
        rw [hx]
        have HX := Lib.hid hx
        clear hx
        by_cases hlt2 : q < 8
        · go_wp2
          go_round
          case rel => exact ⟨q + 1, by omega, by go_num, by rw [← HX.out]; rfl⟩
          case measure => simp [intOf]; omega
        · obtain rfl : q = 8 := by omega
          have hcell : wr.cell? ⟨w.heap.size + 1, k, none⟩ = some (cs[k]'(by rw [HS.out]; exact hlt)) := by rw [HB.out.cell, Array.getElem?_eq_getElem]
          have hfr := HB.out.frozen k
          have R := tab_put cs (fun i => .int .u32 (tab32 i)) k HS.out hlt HT.out
          have HR1 := Lib.hid R.1
          have HR2 := Lib.hid R.2
          have hxt : tab32 k = x := HX.out
          have HB2 : Hid (Blk (wr.setCell ⟨w.heap.size + 1, k, none⟩ (.int .u32 x)) (w.heap.size + 1) 253 (cs.setIfInBounds k (.int .u32 (tab32 k)))) := by rw [hxt]; exact HB.out.set_ k _
          have HC2 : Hid (∃ cz : Array Value, cz.size = 256 ∧ Blk (wr.setCell ⟨w.heap.size + 1, k, none⟩ (.int .u32 x)) w.heap.size 253 cz) := by
            obtain ⟨cz, h1, h2⟩ := HC.out
            exact ⟨cz, h1, h2.far (by simp) _⟩
          have hbl2 : Below w.heap.size w (wr.setCell ⟨w.heap.size + 1, k, none⟩ (.int .u32 x)) := hbl.setCell (by simp) _
          clear R hxt
          go_wp2
          go_roundw
          case rel => exact ⟨k + 1, _, by omega, by go_num, HR1, HR2, HC2, HB2, hbl2⟩
          case measure => simp [intOf]; omega
    · obtain rfl : k = 256 := by omega
      obtain ⟨cz, hcz, hbz⟩ := HC.out
      go_wp2_with (first
        | (with_reducible refine wpList_load_row rfl 253 (.tmp 1) rfl (w.heap.size + 1) ?hx 253 cs (0, 0) (.array 256 36) ?hg Tryz.underlying253 ?hd ?hs ?_)
        | (with_reducible refine wpList_store_row rfl 253 (.tmp 0) (.tmp 23) rfl w.heap.size cs ?kx ?ky 253 cz ?kg ?ks ?ks3 ?k1 ?_))
      case hs => rw [HS.out]; kernel_rfl
      case ks => rw [HS.out]; kernel_rfl
      case ks3 => rw [hcz, HS.out]
      case k1 => exact all_one cs _ HS.out HT.out (fun _ _ => rfl)
      case hx => rfl
      case hg => exact HB.out
      case h_2 => rfl
      case h_3 => rfl
      case kg => exact hbz
      have hfin : (wr.setRow w.heap.size cs).heap[w.heap.size]? = some (.cells cs 253 (0, 0)) := setRow_heap wr w.heap.size _ _ _ _ hbz
      have hbl2 : Below w.heap.size w (wr.setRow w.heap.size cs) := below_setRow hbl (Nat.le_refl _) cs
      refine bodyPost_ret (v := .agg cs) ?res rfl ?post
      case res =>
        refine results_cell_row rfl _ _ w.heap.size _ cs (0, 0) (.array 256 36) ?hp hfin Tryz.underlying253 ?hd2 ?hs2
        case hp => rfl
        case hd2 => rfl
        case hs2 => rw [HS.out]; kernel_rfl
      case post => exact ⟨cs, rfl, HS.out, HT.out, hbl2⟩

def crcS16 (x : Int) (c : UInt8) : Int := bits .xor .u16 (IntKind.u16.wrap (x * 256)) (tab16 (bits .xor .u8 (x / 256) c.toNat).toNat)
theorem crcS16_range (l : List UInt8) (x : Int) (h0 : 0 ≤ x) (h1 : x < 65536) : 0 ≤ l.foldl crcS16 x ∧ l.foldl crcS16 x < 65536 := by
  induction l generalizing x with
  | nil => exact ⟨h0, h1⟩
  | cons c r ih => exact ih _ (bits_u16 _ _ _).1 (bits_u16 _ _ _).2
set_option maxRecDepth 100000 in
theorem More16_any (s0 : Nat) (hs0 : s0 < 65536) (l : List UInt8) (hm : l.length ≤ 16777216) (w : World) (ok : Nat → Prop) (v : Value) (hv : Sl ok w v (bytesV l)) :
    Calls Tryz.prog 132 #[.int .u16 s0, v] w fun e w' => e = .returned (.int .u16 (l.foldl crcS16 (s0 : Int))) ∧ Below w.heap.size w w' := by
  have hz : Tryz.zeroCells237.size = 256 := by kernel_rfl
  have HZ := Lib.hid hz
  clear hz
  have hup := Lib.hid (up_any w)
  obtain ⟨A, c, rfl, hc⟩ := hv.form
  go_enter Tryz.func132, Tryz.ntmps132
  go_wp2_with fail
  refine hup.out.mono ?_
  rintro e w1 ⟨cs, rfl, hcs, ht, hb1⟩
  have HS := Lib.hid hcs
  have HT := Lib.hid ht
  clear hcs ht
  go_wp2_with (with_reducible refine wpList_store_row rfl 237 (.tmp 5) (.tmp 8) rfl w1.heap.size cs ?kx ?ky 237 Tryz.zeroCells237 ?kg ?ks ?ks3 ?k1 ?_)
  case kx => rfl
  case ky => rfl
  case kg => exact Blk.at_top rfl
  case ks => rw [HS.out]; kernel_rfl
  case ks3 => rw [HZ.out, HS.out]
  case k1 => exact all_one cs _ HS.out HT.out (fun _ _ => rfl)
  have hblk : Blk ((w1.alloc (.cells Tryz.zeroCells237 237)).setRow w1.heap.size cs) w1.heap.size 237 cs := setRow_heap _ _ _ _ _ _ (Blk.at_top rfl)
  have hbel : Below w.heap.size w ((w1.alloc (.cells Tryz.zeroCells237 237)).setRow w1.heap.size cs) := below_setRow (hb1.alloc hb1.size _) hb1.size cs
  have hN := hb1.size
  have HB0 := Lib.hid hblk
  clear hblk
  go_loopw [0, 11] (fun s i wr => ∃ k : Nat, k ≤ l.length ∧ i = .int .i64 k ∧ s = .int .u16 ((l.take k).foldl crcS16 (s0 : Int)) ∧ Hid (Blk wr w1.heap.size 237 cs) ∧ Below w.heap.size w wr) (fun _ i _ => l.length - (intOf i).toNat)
  case atStart => exact ⟨0, Nat.zero_le _, rfl, rfl, HB0, hbel⟩
  case round =>
    obtain ⟨k, hk, rfl, rfl, HB, hbl⟩ := hrel
    by_cases hlt : k < l.length
    · obtain ⟨y, hy, hc1, hy0, hy1⟩ : ∃ y : Int, Hid (((l[k]).toNat : Int) = y) ∧ (∃ b o, A = some ⟨b, o, none⟩ ∧ wr.cell? ⟨b, o + k, none⟩ = some (.int .u8 y)) ∧ 0 ≤ y ∧ y < 256 := by
        obtain ⟨b, o, c', e, _, _, hlt3, hcell⟩ := hv.form_pos (by rw [bytesV_length]; omega)
        injection e with e1 _ _
        refine ⟨(l[k]).toNat, Lib.hid rfl, ⟨b, o, e1, ?_⟩, by omega, ?_⟩
        · exact (hbl.cell (p := ⟨b, o + k, none⟩) hlt3).trans (hcell k _ (by simp [bytesV, byteV, hlt]))
        · have := (l[k]).toNat_lt; omega
      obtain ⟨b, o, rfl, hc2⟩ := hc1
      obtain ⟨x, hx, hx0, hx1⟩ : ∃ x : Int, (l.take k).foldl crcS16 (s0 : Int) = x ∧ 0 ≤ x ∧ x < 65536 := ⟨_, rfl, (crcS16_range _ _ (by omega) (by omega)).1, (crcS16_range _ _ (by omega) (by omega)).2⟩
      rw [hx]
      have hstep : (l.take (k + 1)).foldl crcS16 (s0 : Int) = crcS16 x l[k] := by
        rw [List.take_succ_eq_append_getElem hlt, List.foldl_append, hx]; rfl
      have HX := Lib.hid hstep
      clear hstep hx
      have hz := bits_u8 .xor (x / 256) y
      have hc3 : wr.cell? ⟨w1.heap.size, (bits .xor .u8 (x / 256) y).toNat, none⟩ = some (.int .u16 (tab16 (bits .xor .u8 (x / 256) y).toNat)) := (HB.out.cell _).trans (HT.out _ (by omega))
      have hz0 := hz.1
      have hz1 := hz.2
      clear hz
      go_wp2
      go_roundw
      case rel => exact ⟨k + 1, by omega, by go_num, by rw [HX.out, crcS16, hy.out], HB, hbl⟩
      case measure => simp [intOf]; omega
    · obtain rfl : k = l.length := by omega
      go_wp2
      go_ret
      exact ⟨by simp, hbl⟩

theorem Sum16_any (l : List UInt8) (hm : l.length ≤ 16777216) (w : World) (ok : Nat → Prop) (v : Value) (hv : Sl ok w v (bytesV l)) :
    Calls Tryz.prog 105 #[v] w fun e w' => e = .returned (.int .u16 (l.foldl crcS16 65535)) ∧ Below w.heap.size w w' := by
  have H := Lib.hid (More16_any 65535 (by omega) l hm w ok v hv)
  clear hv
  go_enter Tryz.func105, Tryz.ntmps105
  go_wp2_with fail
  refine H.out.mono ?_
  rintro e w1 ⟨rfl, hb⟩
  go_wp2
  go_ret
  exact ⟨rfl, hb⟩

def crcS32 (x : Int) (c : UInt8) : Int := bits .xor .u32 (x / 256) (tab32 (bits .xor .u8 (x % 256) c.toNat).toNat)
theorem crcS32_range (l : List UInt8) (x : Int) (h0 : 0 ≤ x) (h1 : x < 4294967296) : 0 ≤ l.foldl crcS32 x ∧ l.foldl crcS32 x < 4294967296 := by
  induction l generalizing x with
  | nil => exact ⟨h0, h1⟩
  | cons c r ih => exact ih _ (bits_u32 _ _ _).1 (bits_u32 _ _ _).2
set_option maxRecDepth 100000 in
theorem Sum32_any (l : List UInt8) (hm : l.length ≤ 16777216) (w : World) (ok : Nat → Prop) (v : Value) (hv : Sl ok w v (bytesV l)) :
    Calls Tryz.prog 160 #[v] w fun e w' => e = .returned (.int .u32 (bits .xor .u32 IntKind.u32.max (l.foldl crcS32 4294967295))) ∧ Below w.heap.size w w' := by
  have hz : Tryz.zeroCells253.size = 256 := by kernel_rfl
  have HZ := Lib.hid hz
  clear hz
  have hdn := Lib.hid (down_any w)
  obtain ⟨A, c, rfl, hc⟩ := hv.form
  go_enter Tryz.func160, Tryz.ntmps160
  go_wp2_with fail
  refine hdn.out.mono ?_
  rintro e w1 ⟨cs, rfl, hcs, ht, hb1⟩
  have HS := Lib.hid hcs
  have HT := Lib.hid ht
  clear hcs ht
  go_wp2_with (with_reducible refine wpList_store_row rfl 253 (.tmp 3) (.tmp 7) rfl w1.heap.size cs ?kx ?ky 253 Tryz.zeroCells253 ?kg ?ks ?ks3 ?k1 ?_)
  case kx => rfl
  case ky => rfl
  case kg => exact Blk.at_top rfl
  case ks => rw [HS.out]; kernel_rfl
  case ks3 => rw [HZ.out, HS.out]
  case k1 => exact all_one cs _ HS.out HT.out (fun _ _ => rfl)
  have hblk : Blk ((w1.alloc (.cells Tryz.zeroCells253 253)).setRow w1.heap.size cs) w1.heap.size 253 cs := setRow_heap _ _ _ _ _ _ (Blk.at_top rfl)
  have hbel : Below w.heap.size w ((w1.alloc (.cells Tryz.zeroCells253 253)).setRow w1.heap.size cs) := below_setRow (hb1.alloc hb1.size _) hb1.size cs
  have hN := hb1.size
  have HB0 := Lib.hid hblk
  clear hblk
  go_loopw [4, 10] (fun s i wr => ∃ k : Nat, k ≤ l.length ∧ i = .int .i64 k ∧ s = .int .u32 ((l.take k).foldl crcS32 4294967295) ∧ Hid (Blk wr w1.heap.size 253 cs) ∧ Below w.heap.size w wr) (fun _ i _ => l.length - (intOf i).toNat)
  case atStart => exact ⟨0, Nat.zero_le _, rfl, rfl, HB0, hbel⟩
  case round =>
    obtain ⟨k, hk, rfl, rfl, HB, hbl⟩ := hrel
    by_cases hlt : k < l.length
    · obtain ⟨y, hy, hc1, hy0, hy1⟩ : ∃ y : Int, Hid (((l[k]).toNat : Int) = y) ∧ (∃ b o, A = some ⟨b, o, none⟩ ∧ wr.cell? ⟨b, o + k, none⟩ = some (.int .u8 y)) ∧ 0 ≤ y ∧ y < 256 := by
        obtain ⟨b, o, c', e, _, _, hlt3, hcell⟩ := hv.form_pos (by rw [bytesV_length]; omega)
        injection e with e1 _ _
        refine ⟨(l[k]).toNat, Lib.hid rfl, ⟨b, o, e1, ?_⟩, by omega, ?_⟩
        · exact (hbl.cell (p := ⟨b, o + k, none⟩) hlt3).trans (hcell k _ (by simp [bytesV, byteV, hlt]))
        · have := (l[k]).toNat_lt; omega
      obtain ⟨b, o, rfl, hc2⟩ := hc1
      obtain ⟨x, hx, hx0, hx1⟩ : ∃ x : Int, (l.take k).foldl crcS32 4294967295 = x ∧ 0 ≤ x ∧ x < 4294967296 := ⟨_, rfl, (crcS32_range _ _ (by omega) (by omega)).1, (crcS32_range _ _ (by omega) (by omega)).2⟩
      rw [hx]
      have hstep : (l.take (k + 1)).foldl crcS32 4294967295 = crcS32 x l[k] := by
        rw [List.take_succ_eq_append_getElem hlt, List.foldl_append, hx]; rfl
      have HX := Lib.hid hstep
      clear hstep hx
      have hz := bits_u8 .xor (x % 256) y
      have hc3 : wr.cell? ⟨w1.heap.size, (bits .xor .u8 (x % 256) y).toNat, none⟩ = some (.int .u32 (tab32 (bits .xor .u8 (x % 256) y).toNat)) := (HB.out.cell _).trans (HT.out _ (by omega))
      have hz0 := hz.1
      have hz1 := hz.2
      clear hz
      go_wp2
      go_roundw
      case rel => exact ⟨k + 1, by omega, by go_num, by rw [HX.out, crcS32, hy.out], HB, hbl⟩
      case measure => simp [intOf]; omega
    · obtain rfl : k = l.length := by omega
      go_wp2
      go_ret
      exact ⟨by simp, hbl⟩


def sum16N (l : List UInt8) : Nat := (l.foldl crcS16 65535).toNat
theorem sum16N_lt (l : List UInt8) : sum16N l < 65536 := by
  have := crcS16_range l 65535 (by omega) (by omega)
  unfold sum16N; omega
theorem sum16N_eq (l : List UInt8) : l.foldl crcS16 65535 = (sum16N l : Int) := by
  have := crcS16_range l 65535 (by omega) (by omega)
  unfold sum16N; omega

end Go.Proofs.YtnaphhfmccbamaaGreatDoor

namespace Go.Proofs.YtnaphhfmccbamaaGreatDoor
open Go.RowKit

def recV (kind txn : Nat) (key : ByteArray) (bv : Value) (cnt : Nat) : Value := .agg #[.int .i64 kind, .int .u32 txn, .string key, bv, .int .i64 cnt]

theorem right_put (txn k n : Nat) (key : ByteArray) (bv : Value) (ht : txn ≠ 0) (h1 : 1 ≤ k) (h2 : k ≤ 64) (h3 : n ≤ 4096) (w : World) :
    Calls Tryz.prog 158 #[recV 1 txn key bv 0, .int .i64 k, .int .i64 n] w fun e w' => e = .returned (.bool true) ∧ Below w.heap.size w w' := by
  have t0 : ((txn : Int) == 0) = false := beq_eq_false_iff_ne.2 (by omega)
  have t1 : decide ((1 : Int) ≤ k) = true := decide_eq_true (by omega)
  have t2 : decide ((k : Int) ≤ 64) = true := decide_eq_true (by omega)
  have t3 : decide ((n : Int) ≤ 4096) = true := decide_eq_true (by omega)
  unfold recV
  go_enter Tryz.func158, Tryz.ntmps158
  go_wp2
  go_ret
  exact ⟨rfl, (Below.refl w.heap.size w).alloc (Nat.le_refl _) _⟩

theorem right_del (txn k : Nat) (key : ByteArray) (bv : Value) (ht : txn ≠ 0) (h1 : 1 ≤ k) (h2 : k ≤ 64) (w : World) :
    Calls Tryz.prog 158 #[recV 2 txn key bv 0, .int .i64 k, .int .i64 0] w fun e w' => e = .returned (.bool true) ∧ Below w.heap.size w w' := by
  have t0 : ((txn : Int) == 0) = false := beq_eq_false_iff_ne.2 (by omega)
  have t1 : decide ((1 : Int) ≤ k) = true := decide_eq_true (by omega)
  have t2 : decide ((k : Int) ≤ 64) = true := decide_eq_true (by omega)
  unfold recV
  go_enter Tryz.func158, Tryz.ntmps158
  go_wp2
  go_ret
  exact ⟨rfl, (Below.refl w.heap.size w).alloc (Nat.le_refl _) _⟩

theorem right_commit (txn c : Nat) (key : ByteArray) (bv : Value) (ht : txn ≠ 0) (h1 : c ≤ 16) (w : World) :
    Calls Tryz.prog 158 #[recV 3 txn key bv c, .int .i64 0, .int .i64 0] w fun e w' => e = .returned (.bool true) ∧ Below w.heap.size w w' := by
  have t0 : ((txn : Int) == 0) = false := beq_eq_false_iff_ne.2 (by omega)
  have t1 : decide ((0 : Int) ≤ c) = true := decide_eq_true (by omega)
  have t2 : decide ((c : Int) ≤ 16) = true := decide_eq_true (by omega)
  unfold recV
  go_enter Tryz.func158, Tryz.ntmps158
  go_wp2
  go_ret
  exact ⟨rfl, (Below.refl w.heap.size w).alloc (Nat.le_refl _) _⟩

theorem Size_any (kind txn cnt n c : Nat) (A : Option Addr) (key : ByteArray) (h1 : key.size ≤ 1000000) (h2 : n ≤ 1000000) (w : World) :
    Calls Tryz.prog 168 #[recV kind txn key (.slice A n c) cnt] w fun e w' => e = .returned (.int .i64 ((16 + key.size + n : Nat) : Int)) ∧ Below w.heap.size w w' := by
  unfold recV
  go_enter Tryz.func168, Tryz.ntmps168
  go_wp2
  go_ret
  refine ⟨?_, (Below.refl w.heap.size w).alloc (Nat.le_refl _) _⟩
  show Ending.returned (.int .i64 _) = _
  congr 2
  omega

def sum32I (l : List UInt8) : Int := bits .xor .u32 IntKind.u32.max (l.foldl crcS32 4294967295)
def sum32N (l : List UInt8) : Nat := (sum32I l).toNat
theorem sum32N_lt (l : List UInt8) : sum32N l < 4294967296 := by
  have := bits_u32 .xor IntKind.u32.max (l.foldl crcS32 4294967295)
  unfold sum32N sum32I; omega
theorem sum32N_eq (l : List UInt8) : bits .xor .u32 IntKind.u32.max (l.foldl crcS32 4294967295) = (sum32N l : Int) := by
  have := bits_u32 .xor IntKind.u32.max (l.foldl crcS32 4294967295)
  unfold sum32N sum32I; omega

end Go.Proofs.YtnaphhfmccbamaaGreatDoor
