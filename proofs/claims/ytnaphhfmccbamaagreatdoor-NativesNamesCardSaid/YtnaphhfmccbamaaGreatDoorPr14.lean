/- Contract of the environment's Set (natives) at an entry that isn't there. The laws' store (natives): a store on a flash that was erased. Contract of the reference's Digits: a number's decimal text. The first record of an environment on a store that has nothing. The walk of NativesPrint. What the row's listed table gives, and how a slice of numbers is opened. Arguments opened: a string, and slices of integers and of bytes as lists. -/
import Derived.Test.YtnaphhfmccbamaaGreatDoorPr13
import Derived.Test.YtnaphhfmccbamaaGreatDoorPr10
import Derived.Test.YtnaphhfmccbamaaGreatDoorPr11
import Derived.Test.YtnaphhfmccbamaaGreatDoorPr12
import Derived.Lib.ItoaNum
import Derived.Lib.SlBytesConst
import Derived.Test.YtnaphhfmccbamaaGreatDoorRows
import Derived.Test.YtnaphhfmccbamaaGreatDoorCards
import Derived.Test.YtnaphhfmccbamaaGreatDoorTie
import Derived.Shelf.Lay
import Derived.ProofKit
import Derived.OpenShut
import Derived.Lay
import Derived.LaidOnce
import Derived.SevenTiedAt
import Derived.Carry
import Derived.Lib.LaidTab
import Derived.Lib.LaidU8
namespace Go.Proofs.YtnaphhfmccbamaaGreatDoor
open Go.RowKit

set_option maxRecDepth 100000 in
set_option maxHeartbeats 1000000 in
theorem NSet_missing (w : World) (v : Nat) (s p pb pw g m : Nat) (B : BS) (h : StoreAt w s p pb pw g m B) (suite : ByteArray) (lv : Value) (hb : Blk w v 63 #[.pointer (some ⟨s, 0, none⟩), .string suite, lv]) (hs : nameB suite = true) (r : Rc) (hr : RcOk r) (a b : Nat) (hm : idxFind B.idx (keyS suite dataS) = some (placeV a b ⟨(rcB r).toArray⟩)) (idn : Nat) (h1 : 1 ≤ idn) (h2 : idn ≤ 2147483647) (hno : ∀ i (h : i < r.list.length), r.list[i].1 ≠ idn) (dA : Option Addr) (dn dc : Nat) :
    Calls Tryz.prog 19 #[.pointer (some ⟨v, 0, none⟩), .int .i32 idn, .slice dA dn dc] w fun e w' => e = .returned (.int .i64 11) ∧ Below w.heap.size w w' := by
  obtain ⟨X, hX, HKX, HVX, HDX, HBX⟩ : ∃ X, (w.alloc (.cells #[.pointer (some ⟨v, 0, none⟩)] 24)).alloc (.cells #[.slice dA dn dc] 31) = X ∧ Hid (Kp (fun _ => False) w X) ∧ Hid (Blk X w.heap.size 24 #[.pointer (some ⟨v, 0, none⟩)]) ∧ Hid (Blk X (w.heap.size + 1) 31 #[.slice dA dn dc]) ∧ Hid (Blk X v 63 #[.pointer (some ⟨s, 0, none⟩), .string suite, lv]) :=
    ⟨_, rfl, Lib.hid (((Kp.refl _ w).alloc _).alloc _), Lib.hid ((Blk.new _ _ _).alloc _), Lib.hid (Blk.at_top (by simp)), Lib.hid ((hb.alloc _).alloc _)⟩
  have HSM : Hid (∀ W, Kp (fun _ => False) w W → Calls Tryz.prog 37 #[.pointer (some ⟨s, 0, none⟩), .string suite, .string dataS, .int .u32 idn, .slice dA dn dc] W fun e w' => e = .returned (.int .i64 11) ∧ Below W.heap.size W w') := Lib.hid fun W hW => Set_missing W s p pb pw g m B (h.below hW.below) suite dataS hs dataS_ok r hr a b hm idn hno dA dn dc
  have HOP := Lib.hid (openC_ok X v s p pb pw g m B (h.below HKX.out.below) suite lv HBX.out hs r hr a b hm false)
  have hent := enters_of Tryz.func36 (by kernel_rfl) rfl
  have HDO : Hid (∀ W, Kp (fun _ => False) X W → Calls Tryz.prog 36 (#[.int .u32 idn] ++ #[.pointer (some ⟨w.heap.size, 0, none⟩), .pointer (some ⟨w.heap.size + 1, 0, none⟩)]) W fun e w' => e = .returned (.int .i64 11) ∧ Below W.heap.size W w') := Lib.hid fun W hW => by
    have HV := Lib.hid (HVX.out.kp hW (fun x => x))
    have HD := Lib.hid (HDX.out.kp hW (fun x => x))
    have HB := Lib.hid (HBX.out.kp hW (fun x => x))
    have HKW := Lib.hid (HKX.out.trans hW (fun _ x _ => x))
    clear hW h hb hs hr hm hno HOP hX hent
    show Calls Tryz.prog 36 #[.int .u32 idn, .pointer (some ⟨w.heap.size, 0, none⟩), .pointer (some ⟨w.heap.size + 1, 0, none⟩)] W _
    go_enter Tryz.func36, Tryz.ntmps36
    go_wp2_with fail
    refine region_fixed_all (by kernel_rfl) (fun j => [Value.pointer (some ⟨v, 0, none⟩), .pointer (some ⟨v, 0, none⟩), .pointer (some ⟨v, 0, none⟩), .pointer (some ⟨s, 0, none⟩), .pointer (some ⟨v, 0, none⟩), .pointer (some ⟨v, 0, none⟩), .pointer (some ⟨v, 1, none⟩), .string suite, .int .u32 idn, .slice dA dn dc, .int .i64 11, .int .i64 11].getD j undef) (fun Y => Kp (fun _ => False) W Y) (by kernel_rfl) ?h0 ?hops ?hend
    case h0 => exact (Kp.refl _ W).drew
    case hops =>
      refine ⟨?_, ?_, ?_, ?_, ?_, ?_, ?_, ?_, ?_, ?_, ?_, ?_, trivial⟩
      all_goals
        intro L b Y hL hS K hK
        have z0 : Y.cell? ⟨w.heap.size, 0, none⟩ = some (.pointer (some ⟨v, 0, none⟩)) := (HV.out.kp hS (fun x => x)).cell 0
        have z1 : Y.cell? ⟨w.heap.size + 1, 0, none⟩ = some (.slice dA dn dc) := (HD.out.kp hS (fun x => x)).cell 0
        have z2 : Y.cell? ⟨v, 0, none⟩ = some (.pointer (some ⟨s, 0, none⟩)) := (HB.out.kp hS (fun x => x)).cell 0
        have z3 : Y.cell? ⟨v, 1, none⟩ = some (.string suite) := (HB.out.kp hS (fun x => x)).cell 1
      · have q1 := hL.old_ 1 (by kernel_rfl)
        simp at q1
        go_simp
        exact hK _ hS
      · have q1 := hL.dep 0 5 (by kernel_rfl)
        simp at q1
        go_simp
        exact hK _ hS
      · have q1 := hL.dep 1 6 (by kernel_rfl)
        simp at q1
        go_simp
        exact hK _ hS
      · have q1 := hL.dep 2 7 (by kernel_rfl)
        simp at q1
        go_simp
        exact hK _ hS
      · have q1 := hL.old_ 1 (by kernel_rfl)
        simp at q1
        go_simp
        exact hK _ hS
      · have q1 := hL.dep 4 9 (by kernel_rfl)
        simp at q1
        go_simp
        exact hK _ hS
      · have q1 := hL.dep 5 10 (by kernel_rfl)
        simp at q1
        go_simp
        exact hK _ hS
      · have q1 := hL.dep 6 11 (by kernel_rfl)
        simp at q1
        go_simp
        exact hK _ hS
      · have q1 := hL.old_ 0 (by kernel_rfl)
        simp at q1
        go_simp
        exact hK _ hS
      · have q1 := hL.old_ 2 (by kernel_rfl)
        simp at q1
        go_simp
        exact hK _ hS
      · have q1 := hL.dep 3 8 (by kernel_rfl)
        have q2 := hL.dep 7 12 (by kernel_rfl)
        have q3 := hL.dep 8 13 (by kernel_rfl)
        have q4 := hL.dep 9 14 (by kernel_rfl)
        simp at q1 q2 q3 q4
        have hc := HSM.out Y (HKW.out.trans hS (fun _ x _ => x))
        go_simp
        refine hc.mono ?_
        rintro e w' ⟨rfl, hb'⟩
        exact hK _ (hS.below_trans hb')
      · have q1 := hL.dep 10 15 (by kernel_rfl)
        simp at q1
        go_simp
        exact hK _ hS
    case hend =>
      intro Y hS
      simp only [putList_cons, putList_nil]
      have HK := Lib.hid hS.below
      clear hS
      go_simp
      go_wp2
      go_ret
      exact ⟨rfl, HK.out⟩
  have HCH : Hid (Calls Tryz.prog 35 #[.pointer (some ⟨v, 0, none⟩), .int .i32 idn, .func (.func 36) #[] #[.pointer (some ⟨w.heap.size, 0, none⟩), .pointer (some ⟨w.heap.size + 1, 0, none⟩)]] X fun e w' => e = .returned (.int .i64 11) ∧ Below X.heap.size X w') := Lib.hid (by
    have t1 : decide ((idn : Int) < 1) = false := decide_eq_false (by omega)
    have tw : IntKind.u32.wrap (idn : Int) = idn := by rw [IntKind.wrap_u32]; omega
    clear h hb hs hr hm hno hX h1 h2 HSM HKX HVX HDX HBX
    go_enter Tryz.func35, Tryz.ntmps35
    go_wp2_with fail
    refine HOP.out.mono ?_
    rintro e w1 ⟨n, ver, A, k, c, rfl, hk, hb1⟩
    unfold recT
    have hkx : Kp (fun _ => False) X (w1.alloc (.cells #[.int .u32 n, .int .u32 ver, .slice A k c] 39)) := (Kp.of_below hb1 (fun _ => False)).alloc _
    have HKX2 := Lib.hid hkx
    clear hk hb1 hkx
    go_wp2_with fail
    refine (HDO.out _ HKX2.out).mono ?_
    rintro e w2 ⟨rfl, hb2⟩
    have HB2 := Lib.hid (HKX2.out.below_trans hb2).below
    clear hb2
    go_wp2
    go_ret
    exact ⟨rfl, HB2.out⟩)
  have x0 : X.cell? ⟨w.heap.size, 0, none⟩ = some (.pointer (some ⟨v, 0, none⟩)) := HVX.out.cell 0
  clear h hb hs hr hm hno h1 h2 HSM HOP HDO hent
  go_enter Tryz.func19, Tryz.ntmps19
  go_wp2_with fail
  refine HCH.out.mono ?_
  rintro e w1 ⟨rfl, hb1⟩
  have HB1 := Lib.hid (HKX.out.below_trans hb1).below
  clear hb1
  go_wp2
  go_ret
  exact ⟨rfl, HB1.out⟩
end Go.Proofs.YtnaphhfmccbamaaGreatDoor

namespace Go.Proofs.YtnaphhfmccbamaaGreatDoor
open Go.RowKit

/-- A store that a call made: new blocks, nothing in it. -/
structure Made (w : World) (s p pb pw g m sectors size : Nat) (B : BS) (w' : World) : Prop where
  st : StoreAt w' s p pb pw g m B
  bi : BI B [] sectors
  idx : B.idx = []
  size : B.F.size = size
  sec : B.F.sectors = sectors
  lo : w.heap.size ≤ s ∧ w.heap.size ≤ p ∧ w.heap.size ≤ pb ∧ w.heap.size ≤ pw ∧ w.heap.size ≤ g ∧ w.heap.size ≤ m
  below : Below w.heap.size w w'
def freshF (a b c : Nat) : FL := ⟨a, b, c, List.replicate (a * b) 255, List.replicate a 0, false, -1, 0, 0⟩
def freshB (a b c : Nat) : BS := ⟨freshF a b c, List.replicate a blankS, [], -1, 0, 0, 0, false⟩
theorem freshB_bi (a b c : Nat) (h0 : 1 ≤ a ∧ a ≤ 64) (h1 : 64 ≤ b ∧ b ≤ 65536) (h2 : 1 ≤ c) : BI (freshB a b c) [] a := by
  refine ⟨rfl, rfl, by show (-1 : Int) < 0; decide, by simp [freshB], by simp, by simp [freshB, freshF], h0.2, h1, rfl, h2, by simp [freshB, freshF], ?_, .inl ⟨rfl, rfl⟩, rfl, Nat.le_refl _⟩
  intro j _ hj
  show (List.replicate (a * b) 255)[j]? = some 255
  have hj' : j < a * b := hj
  simp [hj']
set_option maxRecDepth 100000 in
theorem fresh_made (a b c : Nat) (h0 : 1 ≤ a ∧ a ≤ 64) (h1 : 64 ≤ b ∧ b ≤ 65536) (h2 : 1 ≤ c ∧ c ≤ 1048576) (w w1 : World) (p pb pw : Nat) (l1 : w.heap.size ≤ p) (l2 : w.heap.size ≤ pb) (l3 : w.heap.size ≤ pw) (hf : FlashAt w1 p pb pw (freshF a b c)) (hb : Below w.heap.size w w1) :
    Calls Tryz.prog 25 #[.pointer (some ⟨p, 0, none⟩)] w1 fun e w' => ∃ s g m, e = .returned (.tuple #[.pointer (some ⟨s, 0, none⟩), .int .i64 0]) ∧ Made w s p pb pw g m a b (freshB a b c) w' := by
  have hmap : (freshF a b c).worn.map (fun e => (⟨0, 0, e⟩ : Sec)) = List.replicate a blankS := by simp [freshF, blankS]
  have := Mount_fresh w1 p pb pw (freshF a b c) hf rfl (by simp [freshF]) h0.1 (by simp [freshF]; exact h0.2) h1.1 h1.2 (by simp [freshF]) (fun x hx => List.eq_of_mem_replicate hx) (by
    rw [hmap]
    have := filter_blank (freshF a b c).limit [] a (by simp)
    rw [List.nil_append] at this
    rw [this]
    omega)
  rw [hmap] at this
  refine this.mono ?_
  rintro e w' ⟨s, g, m, rfl, q1, q2, q3, hst, hb'⟩
  have hs := hb.size
  exact ⟨s, g, m, rfl, hst, freshB_bi a b c h0 h1 h2.1, rfl, rfl, rfl, ⟨by omega, l1, l2, l3, by omega, by omega⟩, hb.trans (hb'.mono hs)⟩

set_option maxRecDepth 100000 in
theorem store_ok (w : World) : Calls Tryz.prog 11 #[] w fun e w' => ∃ s p pb pw g m, e = .returned (.tuple #[.pointer (some ⟨s, 0, none⟩), .bool true]) ∧ Made w s p pb pw g m 5 16384 (freshB 5 16384 1000) w' := by
  go_enter Tryz.func11, Tryz.ntmps11
  go_wp2_with fail
  refine (New_ok 5 16384 1000 (by omega) (by omega) (by omega) w).mono ?_
  rintro e w1 ⟨p, pb, pw, rfl, l1, l2, l3, hf, hb⟩
  have HC := Lib.hid (fresh_made 5 16384 1000 (by omega) (by omega) (by omega) w w1 p pb pw l1 l2 l3 hf hb)
  clear hf hb
  go_wp2_with fail
  refine HC.out.mono ?_
  rintro e w2 ⟨s, g, m, rfl, hm⟩
  have HM := Lib.hid hm
  clear hm
  go_wp2
  go_ret2
  exact ⟨s, p, pb, pw, g, m, rfl, HM.out⟩

/-- A store and an environment on it, made since w0. -/
structure FxS (w0 : World) (s p pb pw g m v : Nat) (B : BS) (suite : ByteArray) (lv : Value) (ls : List ByteArray) (W : World) : Prop where
  kp : Kp (fun _ => False) w0 W
  st : StoreAt W s p pb pw g m B
  env : EnvAt W (v + 1) v (.pointer (some ⟨s, 0, none⟩)) suite lv ls
  low : s < v ∧ p < v ∧ pb < v ∧ pw < v ∧ g < v ∧ m < v
  hi : w0.heap.size ≤ s ∧ w0.heap.size ≤ p ∧ w0.heap.size ≤ pb ∧ w0.heap.size ≤ pw ∧ w0.heap.size ≤ g ∧ w0.heap.size ≤ m
section
variable {w0 W W' : World} {s p pb pw g m v : Nat} {B B' : BS} {suite : ByteArray} {lv lv' : Value} {ls ls' : List ByteArray}
theorem FxS.below (h : FxS w0 s p pb pw g m v B suite lv ls W) (k : Kp (fun _ => False) W W') : FxS w0 s p pb pw g m v B suite lv ls W' :=
  ⟨h.kp.trans k (fun _ x _ => x), h.st.below k.below, h.env.kp k (fun x => x) (fun _ _ x => x), h.low, h.hi⟩
theorem FxS.printed (h : FxS w0 s p pb pw g m v B suite lv ls W) (he : EnvAt W' (v + 1) v (.pointer (some ⟨s, 0, none⟩)) suite lv' ls') (k : Kp (fun b => b = v ∨ v + 1 ≤ b) W W') : FxS w0 s p pb pw g m v B suite lv' ls' W' := by
  obtain ⟨a1, a2, a3, a4, a5, a6⟩ := h.low
  have := h.hi
  exact ⟨h.kp.trans k (fun b hb hlt => by omega), h.st.kp k (by omega) (by omega) (by omega) (by omega) (by omega) (by omega), he, h.low, h.hi⟩
theorem FxS.commit (h : FxS w0 s p pb pw g m v B suite lv ls W) (hst : StoreAt W' s p pb pw g m B') (k : Kp (fun b => b = pb ∨ b = s ∨ b = g ∨ b = m) W W') : FxS w0 s p pb pw g m v B' suite lv ls W' := by
  obtain ⟨a1, a2, a3, a4, a5, a6⟩ := h.low
  have := h.hi
  exact ⟨h.kp.trans k (fun b hb hlt => by omega), hst, h.env.kp k (by omega) (fun b hb => by omega), h.low, h.hi⟩
end
theorem fxs_start {w0 w1 w2 : World} {s p pb pw g m a b : Nat} {B : BS} (hm : Made w0 s p pb pw g m a b B w1) {suite : ByteArray} (he : EnvAt w2 (w1.heap.size + 1) w1.heap.size (.pointer (some ⟨s, 0, none⟩)) suite (.slice none 0 0) []) (hb : Below w1.heap.size w1 w2) : FxS w0 s p pb pw g m w1.heap.size B suite (.slice none 0 0) [] w2 :=
  ⟨(Kp.of_below hm.below _).below_trans hb, hm.st.below hb, he, hm.st.lts, hm.lo⟩
end Go.Proofs.YtnaphhfmccbamaaGreatDoor

namespace Go.Proofs.YtnaphhfmccbamaaGreatDoor
open Go.RowKit

theorem sl_one (w : World) (c : UInt8) : Sl (fun b => b = w.heap.size) (w.alloc (.cells #[byteV c] 5)) (.slice (some ⟨w.heap.size, 0, none⟩) 1 1) (bytesV [c]) :=
  ⟨_, 1, rfl, Nat.le_refl _, fun _ => ⟨w.heap.size, 0, rfl, rfl, by simp, fun i u hi => by
    match i, hi with
    | 0, hi => simp [bytesV] at hi; subst hi; exact (Blk.new w 5 #[byteV c]).cell 0⟩⟩
theorem dec_small {m : Nat} (h : m < 10) : Lib.decDigits m = [UInt8.ofNat (48 + m)] := by rw [Lib.decDigits, dif_pos h]
theorem dec_big {m : Nat} (h : ¬ m < 10) : Lib.decDigits m = Lib.decDigits (m / 10) ++ [UInt8.ofNat (48 + m % 10)] := by rw [Lib.decDigits, dif_neg h]
theorem dec_len : ∀ (k m : Nat), m ≤ k → (Lib.decDigits m).length ≤ k + 1
  | 0, m, h => by rw [dec_small (by omega)]; simp
  | k + 1, m, h => by
    by_cases h1 : m < 10
    · rw [dec_small h1]; simp
    · rw [dec_big h1, List.length_append, List.length_singleton]
      have := dec_len k (m / 10) (by omega)
      omega
theorem dec_len2 : ∀ (k m : Nat), m < 10 ^ (k + 1) → (Lib.decDigits m).length ≤ k + 1
  | 0, m, h => by rw [dec_small (by simpa using h)]; simp
  | k + 1, m, h => by
    by_cases h1 : m < 10
    · rw [dec_small h1]; simp
    · rw [dec_big h1, List.length_append, List.length_singleton]
      have := dec_len2 k (m / 10) (by rw [Nat.pow_succ] at h; exact Nat.div_lt_of_lt_mul (by omega))
      omega
theorem dig_byte {m : Nat} (h : m < 10) : ((UInt8.ofNat (48 + m)).toNat : Int) = 48 + (m : Int) := by
  have : (UInt8.ofNat (48 + m)).toNat = 48 + m := by
    rw [UInt8.toNat_ofNat', Nat.mod_eq_of_lt (by omega)]
  rw [this]
  omega

structure DgR (X : World) (c : UInt8) (L : Nat → Prop) (V : Nat → Value) (W : World) : Prop where
  kp : Kp (fun _ => False) X W
  v7 : L 7 → ∃ n7, V 7 = .slice (some ⟨n7, 0, none⟩) 1 1 ∧ Sl (fun _ => True) W (.slice (some ⟨n7, 0, none⟩) 1 1) (bytesV [c])

set_option maxRecDepth 100000 in
theorem digits_small (m : Nat) (w : World) (h : m < 10) : Calls Tryz.prog 10 #[.int .i64 m] w fun e w' => e = .returned (.string ⟨(Lib.decDigits m).toArray⟩) ∧ Below w.heap.size w w' := by
  have t1 : decide ((m : Int) < 0) = false := decide_eq_false (by omega)
  have t2 : decide ((m : Int) < 10) = true := decide_eq_true (by omega)
  have hd := dig_byte h
  obtain ⟨c, hc⟩ : ∃ c, UInt8.ofNat (48 + m) = c := ⟨_, rfl⟩
  rw [hc] at hd
  have b1 : (m : Int) ≤ 9 := by omega
  have b2 : (0 : Int) ≤ m := by omega
  have HE : Hid (Lib.decDigits m = [c]) := Lib.hid (by rw [dec_small h, hc])
  have hcv := (sl_one w c).conv
  unfold byteV at hcv
  rw [hd] at hcv
  clear hd hc h
  go_enter Tryz.func10, Tryz.ntmps10
  go_wp2_with fail
  go_ret
  exact ⟨by rw [HE.out]; rfl, (Below.refl _ _).alloc (Nat.le_refl _) _⟩

set_option maxRecDepth 100000 in
set_option maxHeartbeats 1000000 in
theorem digits_pos (k : Nat) : ∀ (m : Nat) (w : World), m ≤ k → m ≤ 9223372036854775807 → Calls Tryz.prog 10 #[.int .i64 m] w fun e w' => e = .returned (.string ⟨(Lib.decDigits m).toArray⟩) ∧ Below w.heap.size w w' := by
  induction k with
  | zero =>
    intro m w hm _
    exact digits_small m w (by omega)
  | succ k ih =>
    intro m w hm hb2
    by_cases h : m < 10
    · exact digits_small m w h
    · have t1 : decide ((m : Int) < 0) = false := decide_eq_false (by omega)
      have t2 : decide ((m : Int) < 10) = false := decide_eq_false (by omega)
      have hlen := dec_len2 18 (m / 10) (by omega)
      have HE := Lib.hid (dec_big h)
      obtain ⟨q, hq⟩ : ∃ q, m / 10 = q := ⟨_, rfl⟩
      obtain ⟨d, hd⟩ : ∃ d, m % 10 = d := ⟨_, rfl⟩
      have hdl : d < 10 := by omega
      have hby := dig_byte hdl
      rw [hq, hd] at HE
      rw [hq] at hlen
      have HI : Hid (∀ W, Calls Tryz.prog 10 #[.int .i64 q] W fun e w' => e = .returned (.string ⟨(Lib.decDigits q).toArray⟩) ∧ Below W.heap.size W w') := Lib.hid fun W => ih q W (by omega) (by omega)
      have tq : IntKind.i64.wrap ((m : Int) / 10) = (q : Int) := by rw [IntKind.wrap_i64]; omega
      have tr : (m : Int).tmod 10 = (d : Int) := by rw [Int.tmod_eq_emod_of_nonneg (by omega)]; omega
      obtain ⟨c, hc⟩ : ∃ c, UInt8.ofNat (48 + d) = c := ⟨_, rfl⟩
      rw [hc] at hby HE
      have ts : IntKind.i64.wrap (48 + (d : Int)) = (c.toNat : Int) := by rw [hby, IntKind.wrap_i64]; omega
      have tu : IntKind.u8.wrap (c.toNat : Int) = (c.toNat : Int) := by rw [hby, IntKind.wrap_u8]; omega
      obtain ⟨S, hS⟩ : ∃ S : ByteArray, (⟨(Lib.decDigits q).toArray⟩ : ByteArray) = S := ⟨_, rfl⟩
      have hSs : S.size ≤ 19 := by rw [← hS]; simpa [ByteArray.size] using hlen
      rw [hS] at HI
      have HSS := Lib.hid hS
      clear ih hm hb2 h hq hd hlen hby hc hS
      go_enter Tryz.func10, Tryz.ntmps10
      go_wp2_with fail
      refine region_parts_all (by kernel_rfl) (fun j => [some (Value.int .i64 m), some (.int .i64 q), some (.string S), some (.int .i64 m), some (.int .i64 d), some (.int .i64 c.toNat), some (.int .u8 c.toNat), none, some (.string ⟨#[c]⟩), some (.string (S ++ ⟨#[c]⟩)), some (.string (S ++ ⟨#[c]⟩))].getD j none) (DgR w c) (by kernel_rfl) ?h0 ?hops ?hend
      case h0 => exact fun V => ⟨(Kp.refl _ w).drew, fun h => h.elim⟩
      case hops =>
        refine ⟨?_, ?_, ?_, ?_, ?_, ?_, ?_, ?_, ?_, ?_, ?_, trivial⟩
        all_goals intro L V b Y hL hF hR K hK
        · have q1 := hL.old_ 0 (by kernel_rfl)
          simp at q1
          go_simp
          exact hK _ hR
        · have q1 := hL.depv hF 0 30 _ rfl (by kernel_rfl)
          go_simp
          exact hK _ hR
        · have q1 := hL.depv hF 1 31 _ rfl (by kernel_rfl)
          have hc := HI.out Y
          go_simp
          refine hc.mono ?_
          rintro e w' ⟨rfl, hb⟩
          refine hK _ ⟨hR.kp.below_trans hb, fun h7 => ?_⟩
          obtain ⟨n7, e7, hs⟩ := hR.v7 h7
          exact ⟨n7, e7, hs.kp (Kp.of_below hb (fun _ => False)) (fun _ _ _ x => x)⟩
        · have q1 := hL.old_ 0 (by kernel_rfl)
          simp at q1
          go_simp
          exact hK _ hR
        · have q1 := hL.depv hF 3 33 _ rfl (by kernel_rfl)
          go_simp
          exact hK _ hR
        · have q1 := hL.depv hF 4 34 _ rfl (by kernel_rfl)
          go_simp
          exact hK _ hR
        · have q1 := hL.depv hF 5 35 _ rfl (by kernel_rfl)
          go_simp
          exact hK _ hR
        · have q1 := hL.depv hF 6 36 _ rfl (by kernel_rfl)
          have hsl := (sl_one Y c).mono (ok' := fun _ => True) (fun _ _ _ => trivial)
          unfold byteV at hsl
          go_simp
          exact hK _ _ ⟨hR.kp.alloc _, fun _ => ⟨Y.heap.size, upd_same _ _ _, hsl⟩⟩
        · have q1 := hL.dep 7 37 (by kernel_rfl)
          obtain ⟨n7, e7, hs⟩ := hR.v7 (hL.isn 7 rfl (by kernel_rfl))
          have e7' : V 7 = .slice (some ⟨n7, 0, none⟩) 1 1 := e7
          rw [e7'] at q1
          have hcv := hs.conv
          go_simp
          exact hK _ hR
        · have q1 := hL.depv hF 2 32 _ rfl (by kernel_rfl)
          have q2 := hL.depv hF 8 38 _ rfl (by kernel_rfl)
          have hsum : S.size + (⟨#[c]⟩ : ByteArray).size ≤ 9223372036854775807 := by show S.size + 1 ≤ _; omega
          have hadd := @run_string_add_sum Tryz.prog Y S ⟨#[c]⟩ hsum
          go_simp
          exact hK _ hR
        · have q1 := hL.depv hF 9 39 _ rfl (by kernel_rfl)
          go_simp
          exact hK _ hR
      case hend =>
        intro L V Y hall hfix hR
        have e0 := hfix 0 _ (by decide) rfl
        have e1 := hfix 1 _ (by decide) rfl
        have e2 := hfix 2 _ (by decide) rfl
        have e3 := hfix 3 _ (by decide) rfl
        have e4 := hfix 4 _ (by decide) rfl
        have e5 := hfix 5 _ (by decide) rfl
        have e6 := hfix 6 _ (by decide) rfl
        have e8 := hfix 8 _ (by decide) rfl
        have e9 := hfix 9 _ (by decide) rfl
        have e10 := hfix 10 _ (by decide) rfl
        have HK := Lib.hid hR.kp.below
        simp only [putList_cons, putList_nil, e0, e1, e2, e3, e4, e5, e6, e8, e9, e10]
        obtain ⟨v7, hv7⟩ : ∃ x, V 7 = x := ⟨_, rfl⟩
        rw [hv7]
        clear hR e0 e1 e2 e3 e4 e5 e6 e8 e9 e10 hall hfix hv7 tq tr ts tu
        go_simp
        go_wp2
        go_ret
        refine ⟨?_, HK.out⟩
        rw [HE.out, ← HSS.out]
        show Ending.returned (.string (⟨(Lib.decDigits q).toArray⟩ ++ ⟨#[c]⟩)) = _
        first | rfl | (congr 2; apply ByteArray.ext; simp)

set_option maxRecDepth 100000 in
theorem digits_nsmall (m : Nat) (w : World) (h1 : 1 ≤ m) (h : m < 10) : Calls Tryz.prog 10 #[.int .i64 (-(m : Int))] w fun e w' => e = .returned (.string ⟨(45 :: Lib.decDigits m).toArray⟩) ∧ Below w.heap.size w w' := by
  have t1 : decide (0 < m) = true := decide_eq_true (by omega)
  have t2 : decide ((m : Int) < 10) = true := decide_eq_true (by omega)
  have hd := dig_byte h
  obtain ⟨c, hc⟩ : ∃ c, UInt8.ofNat (48 + m) = c := ⟨_, rfl⟩
  rw [hc] at hd
  have b1 : (m : Int) ≤ 9 := by omega
  have b2 : (0 : Int) ≤ m := by omega
  have HE : Hid (Lib.decDigits m = [c]) := Lib.hid (by rw [dec_small h, hc])
  have hcv := (sl_one w c).conv
  unfold byteV at hcv
  rw [hd] at hcv
  clear hd hc h h1
  go_enter Tryz.func10, Tryz.ntmps10
  go_wp2_with fail
  go_ret
  exact ⟨by rw [HE.out]; rfl, (Below.refl _ _).alloc (Nat.le_refl _) _⟩

set_option maxRecDepth 100000 in
set_option maxHeartbeats 1000000 in
theorem digits_neg (k : Nat) : ∀ (m : Nat) (w : World), 1 ≤ m → m ≤ k → m ≤ 9223372036854775808 → Calls Tryz.prog 10 #[.int .i64 (-(m : Int))] w fun e w' => e = .returned (.string ⟨(45 :: Lib.decDigits m).toArray⟩) ∧ Below w.heap.size w w' := by
  induction k with
  | zero =>
    intro m w h1 hm _
    omega
  | succ k ih =>
    intro m w h1 hm hb2
    by_cases h : m < 10
    · exact digits_nsmall m w h1 h
    · have t1 : decide (0 < m) = true := decide_eq_true (by omega)
      have t2 : decide ((m : Int) < 10) = false := decide_eq_false (by omega)
      have hlen := dec_len2 18 (m / 10) (by omega)
      have HE := Lib.hid (dec_big h)
      obtain ⟨q, hq⟩ : ∃ q, m / 10 = q := ⟨_, rfl⟩
      obtain ⟨d, hd⟩ : ∃ d, m % 10 = d := ⟨_, rfl⟩
      have hdl : d < 10 := by omega
      have hby := dig_byte hdl
      rw [hq, hd] at HE
      rw [hq] at hlen
      have HI : Hid (∀ W, Calls Tryz.prog 10 #[.int .i64 (-(q : Int))] W fun e w' => e = .returned (.string ⟨(45 :: Lib.decDigits q).toArray⟩) ∧ Below W.heap.size W w') := Lib.hid fun W => ih q W (by omega) (by omega) (by omega)
      have tq : IntKind.i64.wrap (-((m : Int) / 10)) = -(q : Int) := by rw [IntKind.wrap_i64]; omega
      have tr : (-(m : Int)).tmod 10 = -(d : Int) := by rw [Int.neg_tmod, Int.tmod_eq_emod_of_nonneg (by omega)]; omega
      obtain ⟨c, hc⟩ : ∃ c, UInt8.ofNat (48 + d) = c := ⟨_, rfl⟩
      rw [hc] at hby HE
      have ts : IntKind.i64.wrap (48 + (d : Int)) = (c.toNat : Int) := by rw [hby, IntKind.wrap_i64]; omega
      have tu : IntKind.u8.wrap (c.toNat : Int) = (c.toNat : Int) := by rw [hby, IntKind.wrap_u8]; omega
      obtain ⟨S, hS⟩ : ∃ S : ByteArray, (⟨(45 :: Lib.decDigits q).toArray⟩ : ByteArray) = S := ⟨_, rfl⟩
      have hSs : S.size ≤ 20 := by rw [← hS]; simpa [ByteArray.size] using hlen
      rw [hS] at HI
      have HSS := Lib.hid hS
      clear ih h1 hm hb2 h hq hd hlen hby hc hS
      go_enter Tryz.func10, Tryz.ntmps10
      go_wp2_with fail
      refine region_parts_all (by kernel_rfl) (fun j => [some (Value.int .i64 (-(m : Int))), some (.int .i64 (-(q : Int))), some (.string S), some (.int .i64 (-(m : Int))), some (.int .i64 (-(d : Int))), some (.int .i64 c.toNat), some (.int .u8 c.toNat), none, some (.string ⟨#[c]⟩), some (.string (S ++ ⟨#[c]⟩)), some (.string (S ++ ⟨#[c]⟩))].getD j none) (DgR w c) (by kernel_rfl) ?h0 ?hops ?hend
      case h0 => exact fun V => ⟨(Kp.refl _ w).drew, fun h => h.elim⟩
      case hops =>
        refine ⟨?_, ?_, ?_, ?_, ?_, ?_, ?_, ?_, ?_, ?_, ?_, trivial⟩
        all_goals intro L V b Y hL hF hR K hK
        · have q1 := hL.old_ 0 (by kernel_rfl)
          simp at q1
          go_simp
          exact hK _ hR
        · have q1 := hL.depv hF 0 13 _ rfl (by kernel_rfl)
          go_simp
          exact hK _ hR
        · have q1 := hL.depv hF 1 14 _ rfl (by kernel_rfl)
          have hc := HI.out Y
          go_simp
          refine hc.mono ?_
          rintro e w' ⟨rfl, hb⟩
          refine hK _ ⟨hR.kp.below_trans hb, fun h7 => ?_⟩
          obtain ⟨n7, e7, hs⟩ := hR.v7 h7
          exact ⟨n7, e7, hs.kp (Kp.of_below hb (fun _ => False)) (fun _ _ _ x => x)⟩
        · have q1 := hL.old_ 0 (by kernel_rfl)
          simp at q1
          go_simp
          exact hK _ hR
        · have q1 := hL.depv hF 3 16 _ rfl (by kernel_rfl)
          go_simp
          exact hK _ hR
        · have q1 := hL.depv hF 4 17 _ rfl (by kernel_rfl)
          go_simp
          exact hK _ hR
        · have q1 := hL.depv hF 5 18 _ rfl (by kernel_rfl)
          go_simp
          exact hK _ hR
        · have q1 := hL.depv hF 6 19 _ rfl (by kernel_rfl)
          have hsl := (sl_one Y c).mono (ok' := fun _ => True) (fun _ _ _ => trivial)
          unfold byteV at hsl
          go_simp
          exact hK _ _ ⟨hR.kp.alloc _, fun _ => ⟨Y.heap.size, upd_same _ _ _, hsl⟩⟩
        · have q1 := hL.dep 7 20 (by kernel_rfl)
          obtain ⟨n7, e7, hs⟩ := hR.v7 (hL.isn 7 rfl (by kernel_rfl))
          have e7' : V 7 = .slice (some ⟨n7, 0, none⟩) 1 1 := e7
          rw [e7'] at q1
          have hcv := hs.conv
          go_simp
          exact hK _ hR
        · have q1 := hL.depv hF 2 15 _ rfl (by kernel_rfl)
          have q2 := hL.depv hF 8 21 _ rfl (by kernel_rfl)
          have hsum : S.size + (⟨#[c]⟩ : ByteArray).size ≤ 9223372036854775807 := by show S.size + 1 ≤ _; omega
          have hadd := @run_string_add_sum Tryz.prog Y S ⟨#[c]⟩ hsum
          go_simp
          exact hK _ hR
        · have q1 := hL.depv hF 9 22 _ rfl (by kernel_rfl)
          go_simp
          exact hK _ hR
      case hend =>
        intro L V Y hall hfix hR
        have e0 := hfix 0 _ (by decide) rfl
        have e1 := hfix 1 _ (by decide) rfl
        have e2 := hfix 2 _ (by decide) rfl
        have e3 := hfix 3 _ (by decide) rfl
        have e4 := hfix 4 _ (by decide) rfl
        have e5 := hfix 5 _ (by decide) rfl
        have e6 := hfix 6 _ (by decide) rfl
        have e8 := hfix 8 _ (by decide) rfl
        have e9 := hfix 9 _ (by decide) rfl
        have e10 := hfix 10 _ (by decide) rfl
        have HK := Lib.hid hR.kp.below
        simp only [putList_cons, putList_nil, e0, e1, e2, e3, e4, e5, e6, e8, e9, e10]
        obtain ⟨v7, hv7⟩ : ∃ x, V 7 = x := ⟨_, rfl⟩
        rw [hv7]
        clear hR e0 e1 e2 e3 e4 e5 e6 e8 e9 e10 hall hfix hv7 tq tr ts tu
        go_simp
        go_wp2
        go_ret
        refine ⟨?_, HK.out⟩
        rw [HE.out, ← HSS.out]
        show Ending.returned (.string (⟨(45 :: Lib.decDigits q).toArray⟩ ++ ⟨#[c]⟩)) = _
        first | rfl | (congr 2; apply ByteArray.ext; simp)

theorem Digits_any (n : Int) (w : World) (h0 : -9223372036854775808 ≤ n) (h1 : n ≤ 9223372036854775807) : Calls Tryz.prog 10 #[.int .i64 n] w fun e w' => e = .returned (.string ⟨(Lib.itoa n).toArray⟩) ∧ Below w.heap.size w w' := by
  by_cases h : n < 0
  · obtain ⟨m, rfl⟩ : ∃ m : Nat, n = -(m : Int) := ⟨n.natAbs, by omega⟩
    have e : Lib.itoa (-(m : Int)) = 45 :: Lib.decDigits m := by
      unfold Lib.itoa
      rw [if_pos h]
      congr 2
      omega
    rw [e]
    exact digits_neg m m w (by omega) (Nat.le_refl _) (by omega)
  · obtain ⟨m, rfl⟩ : ∃ m : Nat, n = (m : Int) := ⟨n.toNat, by omega⟩
    have e : Lib.itoa (m : Int) = Lib.decDigits m := by
      unfold Lib.itoa
      rw [if_neg h]
      congr 1
    rw [e]
    exact digits_pos m m w (Nat.le_refl _) (by omega)
end Go.Proofs.YtnaphhfmccbamaaGreatDoor

namespace Go.Proofs.YtnaphhfmccbamaaGreatDoor
open Go.RowKit

theorem idxFind_put (l : List (ByteArray × Value)) (k : ByteArray) (v : Value) : idxFind (idxPut l k v) k = some v := by
  induction l with
  | nil => simp [idxPut, idxFind]
  | cons x r ih =>
    simp only [idxPut]
    by_cases h : x.1 = k
    · rw [if_pos h]; simp [idxFind]
    · rw [if_neg h]; simp only [idxFind]; rw [if_neg h]; exact ih
theorem rc0_added_len (dt : List UInt8) : (rcB (rc0.added dt)).length = 16 + dt.length := by
  rw [rcB_length]
  show 10 + (entsB [(1, dt)]).length = _
  simp [entsB, entB]
  omega
theorem NAdd_first (w0 w : World) (s p pb pw g m v : Nat) (B : BS) (suite : ByteArray) (lv : Value) (ls : List ByteArray) (h : FxS w0 s p pb pw g m v B suite lv ls w) (us : List Sec) (n : Nat) (hB : BI B us n) (hn : 4 ≤ n) (hi : B.idx = []) (hsz : 2000 ≤ B.F.size) (hs : nameB suite = true)
    (dt : List UInt8) (hdt : dt.length ≤ 512) (dv : Value) (okd : Nat → Prop) (hdv : Sl okd w dv (bytesV dt)) (hokd : ∀ b, okd b → ¬ (b = pb ∨ b = s ∨ b = g ∨ b = m)) :
    Calls Tryz.prog 17 #[.pointer (some ⟨v, 0, none⟩), dv] w fun e w' => e = .returned (.tuple #[.int .i32 1, .int .i64 0]) ∧ ∃ B2 a b, FxS w0 s p pb pw g m v B2 suite lv ls w' ∧ idxFind B2.idx (keyS suite dataS) = some (placeV a b ⟨(rcB (rc0.added dt)).toArray⟩) := by
  have hns := nameB_size hs
  have hks : (keyS suite dataS).size = suite.size + 3 + 4 := by rw [keyS_size]; rfl
  have hd4 : (rcB rc0).length = 10 := rfl
  obtain ⟨B1, hc1, ⟨us1, n1, a1, b1, hB1, hx1, he1, _, hor⟩⟩ := put_any s p pb pw g m B us n hB (keyS suite dataS) (by omega) (by omega) (rcB rc0) (by omega) _ rfl (by rw [hks, hd4]; omega) (.inr (by omega))
  have hn1 : 3 ≤ n1 := by
    rcases hor with ⟨_, h2, _⟩ | ⟨_, h2, _⟩ <;> omega
  have hr1 : RcOk (rc0.added dt) := rc0_ok.added hdt (by decide) (by decide) (by decide)
  have hl2 := rc0_added_len dt
  obtain ⟨B2, hc2, ⟨us2, n2, a2, b2, hB2, hx2, _⟩⟩ := put_any s p pb pw g m B1 us1 n1 hB1 (keyS suite dataS) (by omega) (by omega) (rcB (rc0.added dt)) (by omega) _ rfl (by rw [hks, hl2, he1]; omega) (.inr (by omega))
  have hf1 : idxFind B1.idx (keyS suite dataS) = some (placeV a1 b1 ⟨(rcB rc0).toArray⟩) := by rw [hx1, idxFind_put]
  have hf2 : idxFind B2.idx (keyS suite dataS) = some (placeV a2 b2 ⟨(rcB (rc0.added dt)).toArray⟩) := by rw [hx2, idxFind_put]
  obtain ⟨q1, q2, q3, q4, q5, q6⟩ := h.low
  have HO := open_new w v s p pb pw g m B B1 h.st suite lv h.env.blk (by omega) hs (by rw [hi]; rfl) 0 (by omega) (Names_none s p pb pw g m B hi suite hs) hc1
  refine (NAdd_ok w v s p pb pw g m B1 B2 suite lv (fun b => b = pb ∨ b = s ∨ b = g ∨ b = m) hs rc0 rc0_ok a1 b1 hf1 HO dt hdt (by decide) (by decide) (by decide) dv okd hdv hokd (by omega) hc2).mono ?_
  rintro e w' ⟨rfl, hst, hk⟩
  exact ⟨rfl, B2, a2, b2, h.commit hst (hk.mono (fun b hb => hb.elim (fun x => x) (fun x => x))), hf2⟩

def appS : ByteArray := ⟨#[97, 112, 112]⟩
theorem appS_ok : nameB appS = true := by decide
theorem tab_kp {w W : World} (ht : Lib.TabIs Tryz.prog w "internal/strconv.uint64pow10" .u64 Lib.pow10Tab) (k : Kp (fun _ => False) w W) : Lib.TabIs Tryz.prog W "internal/strconv.uint64pow10" .u64 Lib.pow10Tab := by
  cases hg : Tryz.prog.globalNamed "internal/strconv.uint64pow10" with
  | none =>
    unfold Lib.TabIs World.var? at ht
    rw [hg] at ht
    cases ht
  | some g => exact Go.Joins.tab_stays hg ht k.below (Nat.le_refl _)
theorem FxS.tab {w0 W : World} {s p pb pw g m v : Nat} {B : BS} {suite : ByteArray} {lv : Value} {ls : List ByteArray} (h : FxS w0 s p pb pw g m v B suite lv ls W) (ht : Lib.TabIs Tryz.prog w0 "internal/strconv.uint64pow10" .u64 Lib.pow10Tab) :
    ∀ W', Kp (fun b => v + 1 ≤ b ∨ b = v) W W' → Lib.TabIs Tryz.prog W' "internal/strconv.uint64pow10" .u64 Lib.pow10Tab := fun W' k => by
  have := h.hi
  have := h.low
  exact tab_kp ht (h.kp.trans k (fun b hb hlt => by omega))
def m5S : ByteArray := ⟨#[45, 53]⟩
def hiS : ByteArray := ⟨#[104, 105]⟩
theorem itoa_m5 : (⟨(Lib.itoa (-5)).toArray⟩ : ByteArray) = m5S := by
  have : Lib.itoa (-5) = [45, 53] := by
    unfold Lib.itoa
    rw [if_pos (by decide)]
    show 45 :: Lib.decDigits 5 = _
    rw [dec_small (by decide)]
    rfl
  rw [this]
  rfl
/-- A row of bytes in a new block. -/
theorem sl_bytes (w : World) (l : List UInt8) : Sl (fun b => b = w.heap.size) (w.alloc (.cells (bytesV l).toArray 5)) (.slice (some ⟨w.heap.size, 0, none⟩) l.length l.length) (bytesV l) :=
  ⟨_, l.length, by rw [bytesV_length], by rw [bytesV_length]; exact Nat.le_refl _, fun _ => ⟨w.heap.size, 0, rfl, rfl, by simp, fun i u hi => by
    rw [Nat.zero_add, (Blk.new w 5 (bytesV l).toArray).cell i]
    simpa using hi⟩⟩
theorem sl_marked (w : World) (l : List UInt8) : Sl (fun b => b = w.heap.size) (w.alloc (.cells (bytesV l).toArray 5 ((bytesV l).toArray.size, (bytesV l).toArray.size + 1))) (.slice (some ⟨w.heap.size, 0, none⟩) l.length l.length) (bytesV l) :=
  ⟨_, l.length, by rw [bytesV_length], by rw [bytesV_length]; exact Nat.le_refl _, fun _ => ⟨w.heap.size, 0, rfl, rfl, by simp, fun i u hi => by
    have hb : (w.alloc (.cells (bytesV l).toArray 5 ((bytesV l).toArray.size, (bytesV l).toArray.size + 1))).heap[w.heap.size]? = some (.cells (bytesV l).toArray 5 ((bytesV l).toArray.size, (bytesV l).toArray.size + 1)) := heap_alloc_new w _
    rw [Nat.zero_add, World.cell?]
    simp only [hb]
    simpa using hi⟩⟩
theorem EnvAt.own_lt {w : World} {base v : Nat} {sv : Value} {suite : ByteArray} {lv : Value} {ls : List ByteArray} (h : EnvAt w base v sv suite lv ls) {b : Nat} (hb : lv.ownBlock = some b) : b < w.heap.size := by
  rcases h.row.2 with ⟨rfl, _⟩ | ⟨g, cap, cur, rfl, a2, a3, _⟩
  · cases hb
  · have hb' : some g = some b := hb
    injection hb' with hb'
    have := Blk.lt (t := 9) a3
    omega
set_option maxRecDepth 100000 in
theorem fixed_ok (w : World) (ht : Lib.TabIs Tryz.prog w "internal/strconv.uint64pow10" .u64 Lib.pow10Tab) : Calls Tryz.prog 6 #[] w fun e w' => e = .returned (.bool true) ∧ Below w.heap.size w w' := by
  go_enter Tryz.func6, Tryz.ntmps6
  go_wp2_with fail
  refine (store_ok w).mono ?_
  rintro e w1 ⟨s, p, pb, pw, g, m, rfl, hm⟩
  have HM := Lib.hid hm
  have HT := Lib.hid ht
  clear hm ht
  go_wp2_with fail
  refine (New_any w1 (some ⟨s, 0, none⟩) appS).mono ?_
  rintro e w2 ⟨rfl, he, hb⟩
  obtain ⟨v, hv⟩ : ∃ v, w1.heap.size = v := ⟨_, rfl⟩
  have hx := fxs_start HM.out he hb
  rw [hv] at hx ⊢
  have HX2 := Lib.hid hx
  clear he hb hx hv
  go_wp2_with fail
  refine (Print_any w2 (v + 1) v _ appS _ [] HX2.out.env (by simp) (-5) (by decide) (by decide) (HX2.out.tab HT.out)).mono ?_
  rintro e w3 ⟨rfl, lv3, he, hk⟩
  rw [itoa_m5] at he
  have HX3 := Lib.hid (HX2.out.printed he hk)
  have kc := fun (w : World) (C : Array Value) (n c : Nat) => Lib.run_convert_bytes_const (P := Tryz.prog) w 31 5 C n c Tryz.underlying31 Tryz.underlying5
  clear he hk
  go_wp2_with fail
  have hsl := sl_marked w3 [104, 105]
  have kx : Kp (fun _ => False) w3 (w3.alloc (.cells #[.int .u8 104, .int .u8 105] 5 (2, 3))) := (Kp.refl _ w3).alloc _
  have hx3 := HX3.out.below kx
  refine (Text_any _ (v + 1) v _ appS lv3 _ hx3.env (by simp) [104, 105] _ _ hsl (fun b hb => by
    subst hb
    have h1 := HX3.out.env.blk.lt
    intro h2
    rcases h2 with h2 | h2
    · omega
    · have := HX3.out.env.own_lt h2; omega)).mono ?_
  rintro e w4 ⟨rfl, lv4, he, hk⟩
  have HX4 := Lib.hid (hx3.printed he hk)
  clear he hk hsl hx3 kx
  go_wp2_with fail
  refine (Count_good w4 _ 11 (.inr rfl) _ (fun k w' h => by omega) (openC_absent w4 v s p pb pw g m _ HX4.out.st appS lv4 HX4.out.env.blk appS_ok rfl)).mono ?_
  rintro e w5 ⟨k5, w5', rfl, ⟨rfl, hb5⟩, hk5⟩
  have HX5 := Lib.hid (HX4.out.below ((Kp.of_below hb5 _).trans hk5 (fun _ x _ => x)))
  clear hb5 hk5 w5'
  go_wp2_with fail
  have hsl6 := sl_marked w5 [120]
  have kx6 : Kp (fun _ => False) w5 (w5.alloc (.cells #[.int .u8 120] 5 (1, 2))) := (Kp.refl _ w5).alloc _
  have hx6 := HX5.out.below kx6
  have hlow := HX5.out.low
  have hvlt := HX5.out.env.blk.lt
  refine (NAdd_first w _ s p pb pw g m v _ appS lv4 _ hx6 [] 5 HM.out.bi (by omega) rfl (by decide) appS_ok [120] (by decide) _ _ hsl6 (fun b hb => by subst hb; omega)).mono ?_
  rintro e w7 ⟨rfl, B2, a, b, hx, hidx⟩
  have HX7 := Lib.hid hx
  have HID := Lib.hid hidx
  clear hx hidx hsl6 kx6 hx6
  go_wp2_with fail
  have hr : RcOk (rc0.added [120]) := rc0_ok.added (by decide) (by decide) (by decide) (by decide)
  refine (NGet_ok w7 v s p pb pw g m B2 HX7.out.st appS lv4 HX7.out.env.blk appS_ok _ hr a b HID.out 1 (by decide) (by decide)).mono ?_
  rintro e w8 ⟨⟨hg⟩, hb8⟩
  have HX8 := Lib.hid (HX7.out.below (Kp.of_below hb8 _))
  have hg' : ∃ A c, e = .returned (.tuple #[.slice A 1 c, .bool true, .int .i64 0]) ∧ Sl (fun b => w7.heap.size ≤ b) w8 (.slice A 1 c) (bytesV [120]) := by
    rcases hg with ⟨k, hk, dv, _, he, hs⟩ | ⟨hno, _⟩
    · have hk0 : k = 0 := by
        have : (rc0.added [120]).list.length = 1 := rfl
        omega
      subst hk0
      have hs' : Sl (fun b => w7.heap.size ≤ b) w8 dv (bytesV [120]) := hs
      obtain ⟨A, c, rfl, _⟩ := hs'.form
      exact ⟨A, c, he, hs'⟩
    · exact absurd rfl (hno 0 (by decide))
  obtain ⟨A8, c8, rfl, hs8⟩ := hg'
  have HS8 := Lib.hid hs8
  have HR := Lib.hid hr
  clear hg hs8 hb8 hr
  go_wp2_with fail
  refine (Lines_any w8 (v + 1) v _ appS lv4 _ HX8.out.env (by simp)).mono ?_
  rintro e w9 ⟨lr, rfl, hsl9, hb9⟩
  have HX9 := Lib.hid (HX8.out.below (Kp.of_below hb9 _))
  have HS9 := Lib.hid (HS8.out.kp (Kp.of_below hb9 (fun _ => False)) (fun _ _ _ x => x))
  obtain ⟨lb, lo, lc, rfl, hlc, _, hlb, hlcell⟩ := hsl9.form_pos (by simp)
  have l0 : w9.cell? ⟨lb, lo, none⟩ = some (.string ⟨#[45, 53]⟩) := hlcell 0 _ rfl
  have l1 : w9.cell? ⟨lb, lo + 1, none⟩ = some (.string ⟨#[104, 105]⟩) := hlcell 1 _ rfl
  have hcv := HS9.out.conv
  have HSM := Lib.hid (NSet_missing w9 v s p pb pw g m B2 HX9.out.st appS lv4 HX9.out.env.blk appS_ok _ HR.out a b HID.out 2 (by omega) (by omega) (fun i hi => by
    have : (rc0.added [120]).list.length = 1 := rfl
    have hi0 : i = 0 := by omega
    subst hi0
    show (1 : Nat) ≠ 2
    decide) none 0 0)
  clear hsl9 hb9 hlcell
  go_wp2_with fail
  refine HSM.out.mono ?_
  rintro e w10 ⟨rfl, hb10⟩
  have HK := Lib.hid (HX9.out.kp.below_trans hb10).below
  clear hb10 l0 l1 hcv
  go_wp2
  go_ret
  exact ⟨rfl, HK.out⟩
end Go.Proofs.YtnaphhfmccbamaaGreatDoor

namespace Go.Proofs.YtnaphhfmccbamaaGreatDoor
open Go.RowKit

def txt (n : Int) : ByteArray := ⟨(Lib.itoa n).toArray⟩
def intsV (l : List Int) : List Value := l.map (Value.int .i64)
set_option maxRecDepth 100000 in
set_option maxHeartbeats 1000000 in
theorem NativesPrint_any (w : World) (ht : Lib.TabIs Tryz.prog w "internal/strconv.uint64pow10" .u64 Lib.pow10Tab) (l : List Int) (hl : ∀ x ∈ l, -9223372036854775808 ≤ x ∧ x ≤ 9223372036854775807) (hlen : l.length ≤ 9223372036854775807) (ok : Nat → Prop) (lv : Value) (hv : Sl ok w lv (intsV l)) :
    Calls Tryz.prog 3 #[lv] w fun e w' => e = .returned (.bool true) ∧ Below w.heap.size w w' := by
  obtain ⟨A, c, rfl, hc⟩ := hv.form
  have hvl : (intsV l).length = l.length := by simp [intsV]
  rw [hvl] at hv hc ⊢
  have HV := Lib.hid hv
  have HT := Lib.hid ht
  have HL := Lib.hid hl
  have HF := Lib.hid (fixed_ok w ht)
  clear hv ht hl hvl
  by_cases h50 : l.length ≤ 50
  · have t1 : decide ((50 : Int) < (l.length : Int)) = false := decide_eq_false (by omega)
    go_enter Tryz.func3, Tryz.ntmps3
    go_wp2_with fail
    refine HF.out.mono ?_
    rintro e w1 ⟨rfl, hb1⟩
    have HK1 := Lib.hid (Kp.of_below hb1 (fun _ => False))
    clear hb1
    go_wp2_with fail
    refine (New_any w1 none ⟨#[]⟩).mono ?_
    rintro e w2 ⟨rfl, he, hb2⟩
    have HK2 := Lib.hid (HK1.out.below_trans hb2)
    obtain ⟨v, hv⟩ : ∃ v, w1.heap.size = v := ⟨_, rfl⟩
    have hvw : w.heap.size ≤ v := by rw [← hv]; exact HK1.out.size
    rw [hv] at he ⊢
    have HE2 := Lib.hid he
    clear he hb2 hv HK1
    go_wp2_with fail
    go_loopw [16] (fun i wr => ∃ k : Nat, k ≤ l.length ∧ i = .int .i64 k ∧ ∃ lv, Hid (EnvAt wr (v + 1) v (.pointer none) ⟨#[]⟩ lv ((l.take k).map txt)) ∧ Hid (Kp (fun _ => False) w wr)) (fun i _ => l.length - (intOf i).toNat)
    case atStart => exact ⟨0, Nat.zero_le _, rfl, _, HE2, HK2⟩
    case round =>
      obtain ⟨k, hk, rfl, lv, HE, HK⟩ := hrel
      by_cases hlt : k < l.length
      · obtain ⟨b, o, c', eA, _, hob, hbl, hcell⟩ := (HV.out.kp HK.out (fun _ _ _ x => x)).form_pos (by simp [intsV]; omega)
        injection eA with eA1 eA2 eA3
        subst eA1 eA3
        clear eA2
        have y0 : wr.cell? ⟨b, o + k, none⟩ = some (.int .i64 l[k]) := hcell k _ (by simp [intsV, hlt])
        have hr := HL.out l[k] (List.getElem_mem hlt)
        have HTK := Lib.hid (show (l.take (k + 1)).map txt = (l.take k).map txt ++ [txt l[k]] by rw [List.take_succ_eq_append_getElem hlt, List.map_append]; rfl)
        obtain ⟨x, hx⟩ : ∃ x, l[k] = x := ⟨_, rfl⟩
        rw [hx] at y0 hr HTK
        have hlens : ((l.take k).map txt).length ≤ 1000000 := by simp; omega
        have HLS := Lib.hid hlens
        clear hcell hx hlens
        go_wp2_with fail
        refine (Print_any wr (v + 1) v _ _ lv _ HE.out HLS.out x hr.1 hr.2 (fun W hW => tab_kp HT.out (HK.out.trans hW (fun b hb hlt => by omega)))).mono ?_
        rintro e w3 ⟨rfl, lv', he, hk3⟩
        have HE3 : Hid (EnvAt w3 (v + 1) v (.pointer none) ⟨#[]⟩ lv' ((l.take (k + 1)).map txt)) := Lib.hid (by rw [HTK.out]; exact he)
        have HK3 : Hid (Kp (fun _ => False) w w3) := Lib.hid (HK.out.trans hk3 (fun b hb hlt => by omega))
        clear he hk3
        go_wp2
        go_roundw
        case rel => exact ⟨k + 1, by omega, by go_num, lv', HE3, HK3⟩
        case measure => simp [intOf]; omega
      · obtain rfl : k = l.length := by omega
        rw [List.take_length] at HE
        go_wp2_with fail
        refine (Lines_any wr (v + 1) v _ _ lv _ HE.out (by simp; omega)).mono ?_
        rintro e w3 ⟨lr, rfl, hsl, hb3⟩
        obtain ⟨lA, lc, rfl, hlc⟩ := hsl.form
        have hll : ((l.map txt).map Value.string).length = l.length := by simp
        rw [hll] at hsl hlc ⊢
        have HS3 := Lib.hid hsl
        have HK3 := Lib.hid (HK.out.below_trans hb3)
        have HE3 := Lib.hid (HE.out.kp (Kp.of_below hb3 (fun _ => False)) (fun x => x) (fun _ _ x => x))
        clear hsl hb3 hll
        go_wp2_with fail
        go_loopw [27] (fun i wr => ∃ k : Nat, k ≤ l.length ∧ i = .int .i64 k ∧ Hid (Kp (fun _ => False) w3 wr)) (fun i _ => l.length - (intOf i).toNat)
        case atStart => exact ⟨0, Nat.zero_le _, rfl, Lib.hid (Kp.refl _ _)⟩
        case round =>
          obtain ⟨k, hk, rfl, HJ⟩ := hrel
          by_cases hlt : k < l.length
          · obtain ⟨b2, o2, c2, eB, _, _, _, hcell2⟩ := (HS3.out.kp HJ.out (fun _ _ _ x => x)).form_pos (by simp; omega)
            injection eB with eB1 eB2 eB3
            subst eB1 eB3
            clear eB2
            obtain ⟨b, o, c', eA, _, _, _, hcell⟩ := ((HV.out.kp HK3.out (fun _ _ _ x => x)).kp HJ.out (fun _ _ _ x => x)).form_pos (by simp [intsV]; omega)
            injection eA with eA1 eA2 eA3
            subst eA1 eA3
            clear eA2
            have y0 : wr.cell? ⟨b, o + k, none⟩ = some (.int .i64 l[k]) := hcell k _ (by simp [intsV, hlt])
            have y1 : wr.cell? ⟨b2, o2 + k, none⟩ = some (.string (txt l[k])) := hcell2 k _ (by simp [hlt])
            have hr := HL.out l[k] (List.getElem_mem hlt)
            obtain ⟨x, hx⟩ : ∃ x, l[k] = x := ⟨_, rfl⟩
            rw [hx] at y0 y1 hr
            obtain ⟨tx, htx⟩ : ∃ tx, txt x = tx := ⟨_, rfl⟩
            rw [htx] at y1
            have HR := Lib.hid hr
            have HTX := Lib.hid htx
            clear hcell hcell2 hx hr htx
            go_wp2_with fail
            refine (Digits_any x wr HR.out.1 HR.out.2).mono ?_
            rintro e w4 ⟨rfl, hb4⟩
            have HJ4 := Lib.hid (HJ.out.below_trans hb4)
            clear hb4
            rw [show (⟨(Lib.itoa x).toArray⟩ : ByteArray) = tx from HTX.out]
            go_wp2
            exact ⟨⟨k + 1, by omega, by go_num, HJ4⟩, by simp [intOf]; omega⟩
          · obtain rfl : k = l.length := by omega
            have HE4 := Lib.hid (HE3.out.kp HJ.out (fun x => x) (fun _ _ x => x))
            have HK4 := Lib.hid (HK3.out.trans HJ.out (fun b hb hlt => by omega))
            go_wp2_with fail
            refine (Lines_any wr (v + 1) v _ _ lv _ HE4.out (by simp; omega)).mono ?_
            rintro e w4 ⟨lr, rfl, hsl, hb4⟩
            obtain ⟨lA, lc, rfl, hlc⟩ := hsl.form
            have hll : ((l.map txt).map Value.string).length = l.length := by simp
            rw [hll] at hlc ⊢
            have HK5 := Lib.hid (HK4.out.below_trans hb4)
            clear hsl hb4 hll
            go_wp2_with fail
            go_ret
            exact ⟨rfl, HK5.out.below⟩
  · have t1 : decide ((50 : Int) < (l.length : Int)) = true := decide_eq_true (by omega)
    go_enter Tryz.func3, Tryz.ntmps3
    go_wp2_with fail
    refine HF.out.mono ?_
    rintro e w1 ⟨rfl, hb1⟩
    have HB1 := Lib.hid hb1
    clear hb1
    go_wp2_with fail
    go_ret
    exact ⟨rfl, HB1.out⟩
end Go.Proofs.YtnaphhfmccbamaaGreatDoor

namespace Go.Proofs.YtnaphhfmccbamaaGreatDoor
open Go.RowKit Go.ChangeShapes Go.WideShapes Go.ChangeAt

theorem cellN_lt {w : World} {a : Addr} {v : Value} (h : w.cell? a = some v) : a.block < w.heap.size := by
  rcases Nat.lt_or_ge a.block w.heap.size with h' | h'
  · exact h'
  · simp [World.cell?, Array.getElem?_eq_none h'] at h
theorem ownN : ownKnob Tryz.prog.godebug = none := by kernel_rfl
theorem laidOutN : laidOutB Tryz.prog = true := by kernel_rfl
def laidN : List (String × DataW Unit) := [("math/bits.deBruijn32tab", Rows.laid_math_bits_deBruijn32tab), ("math/bits.deBruijn64tab", Rows.laid_math_bits_deBruijn64tab), ("internal/strconv.uint64pow10", Rows.laid_internal_strconv_uint64pow10)]
set_option maxRecDepth 100000 in
theorem tabN {W : World} (h : laidMetH Tryz.prog laidN W) : Lib.TabIs Tryz.prog W "internal/strconv.uint64pow10" .u64 Lib.pow10Tab := by
  rw [MakeChecks.laidMetH_plain _ _ _ (by kernel_rfl)] at h
  have hr := Lib.laidMet.reads h (n := "internal/strconv.uint64pow10") (d := Rows.laid_internal_strconv_uint64pow10) (.tail _ (.tail _ (.head _)))
  obtain ⟨g, t, cs, fuel, p, hg, hty, hvar, hd⟩ := hr
  obtain rfl := Option.some.inj ((show Tryz.prog.globalNamed "internal/strconv.uint64pow10" = some 0 by kernel_rfl).symm.trans hg)
  obtain rfl := Option.some.inj ((show (Tryz.prog.globals[0]?).map (·.type) = some 160 by kernel_rfl).symm.trans hty)
  unfold Lib.TabIs
  rw [hvar, ← Lib.cells_of_tab (k := .u64) (zs := Lib.pow10Tab) Tryz.underlying160 Tryz.underlying127 (show Tryz.prog.cellsOf 127 = 1 by kernel_rfl) (show Tryz.prog.cellsOf 160 = 20 by kernel_rfl) hd]
theorem intsV_take {zs : List Int} {n i : Nat} {u : Value} (h : (intsV (zs.take n))[i]? = some u) : i < n ∧ i < zs.length ∧ u = .int .i64 (zs.getD i 0) := by
  unfold intsV at h
  rw [List.getElem?_map] at h
  cases hx : (zs.take n)[i]? with
  | none => rw [hx] at h; cases h
  | some x =>
    rw [hx] at h
    cases h
    obtain ⟨hi, rfl⟩ := List.getElem?_eq_some_iff.1 hx
    rw [List.length_take] at hi
    exact ⟨by omega, by omega, by rw [List.getElem_take, List.getD_eq_getElem?_getD, List.getElem?_eq_getElem (by omega)]; rfl⟩
set_option maxRecDepth 100000 in
theorem print_lifted (os : Os) (started : os.Started) (H : Type) (enc : TypeId × Value → H) :
    ReturnsInHanded {} Tryz.checked os 3 .any (fun w args => (Rows.nativesPrintSpec.pre enc Tryz.prog Tryz.f3 [] false w args ∧ laidMetH Tryz.prog laidN w) ∧ sizedMet enc Tryz.prog Tryz.f3 (OpenSpec.ofChange Rows.nativesPrintSpec) false w args)
      (Rows.nativesPrintSpec.post enc Tryz.prog Tryz.f3 false true false false) := by
  refine returnsInHanded_of_change_and (C := Tryz.checked) (X := fun w _ => laidMetH Tryz.prog laidN w) (fun _ _ _ hh h => h.of_heap hh) ownN started (by kernel_rfl) Tryz.func3
    (ChangeSpec.witness_shaped (enc := enc) (C := Tryz.checked) (os := os) (X := fun w _ => laidMetH Tryz.prog laidN w) false (World.laidAll Tryz.prog os laidN) #[.slice none 0 0] 8 (World.laidAll_os _ _ _)
      (World.shaped_of_ZipB (by kernel_rfl) (by kernel_rfl)) (by kernel_rfl) (by kernel_rfl) (by kernel_rfl)
      (by rw [MakeChecks.laidMetH_plain _ _ _ (by kernel_rfl)]; exact laidMet_laidAll _ (by kernel_rfl) (by kernel_rfl))) ?_
  intro W base args ds gs before hval0 hW _ _ hL _
  have hval : ∀ (j : Nat) t v, Tryz.f3.params[j]? = some t → args[j]? = some v → Value.okWide Tryz.prog W .any base t v := hval0
  have hW' := hW
  obtain ⟨p, q, hA0, hV, rfl, _, _⟩ := hW
  have hA : DataW.TrodAll enc Tryz.prog W 0 (fun _ => true) true Tryz.f3.params.toList args.toList ds p := hA0
  rw [Tryz.params3] at hA hval
  obtain ⟨v0, d0, rfl, rfl, h0⟩ := trodAll_one hA
  obtain ⟨rfl, rfl⟩ := trodVars_none hV
  have h0k := h0
  obtain ⟨fuel, hf⟩ := h0
  obtain ⟨a0, l0, c0, rfl⟩ := okWide_slice Tryz.underlying22 (hval 0 22 v0 rfl rfl)
  clear hA0 hval0
  simp only [List.append_nil] at hW'
  have hlt : ∀ x ∈ p, x.block < W.heap.size := fun x hx => by simpa using hW'.lt x hx
  have fin : ∀ W' : World, Below W.heap.size W W' → Rows.nativesPrintSpec.post enc Tryz.prog Tryz.f3 false true false false W #[.slice a0 l0 c0] (.bool true) W' := fun W' hb => by
    refine ⟨_, _, _, [], p, [], hW', ?_, trodAll_mk1 (Below.trod laidOutN (by kernel_rfl) (of_decide_eq_true (by kernel_rfl)) h0k hb hlt), rfl, hb.frame _, fun h => by cases h⟩
    exact trodAll_mk1 (shut_bool Tryz.underlying4 _)
  have hT := tabN hL
  have key : ∀ (l : List Int) (ok : Nat → Prop), (∀ x ∈ l, -9223372036854775808 ≤ x ∧ x ≤ 9223372036854775807) → l.length ≤ 9223372036854775807 → Sl ok W (.slice a0 l0 c0) (intsV l) → Calls Tryz.prog 3 #[.slice a0 l0 c0] W fun e W' => ∃ v, e = .returned v ∧ Rows.nativesPrintSpec.post enc Tryz.prog Tryz.f3 false true false false W #[.slice a0 l0 c0] v W' := fun l ok h1 h2 h3 =>
    (NativesPrint_any W hT l h1 h2 ok _ h3).mono fun e W' ⟨he, hb⟩ => ⟨_, he, fin W' hb⟩
  rcases open_ints Tryz.underlying22 Tryz.underlying2 (show Tryz.prog.cellsOf 2 = 1 by kernel_rfl) hf with ⟨hcs, hx⟩ | ⟨a, len, cap, zs, hcs, hb, hl, hm, hz, hx, hc, hw⟩
  · cases hcs
    exact key [] (fun _ => True) (by simp) (by simp) (Sl.nil _ _)
  · cases hcs
    have hzl : l0 ≤ zs.length := by rw [hz]; split <;> omega
    have hw' : ∀ x ∈ zs, -9223372036854775808 ≤ x ∧ x ≤ 9223372036854775807 := fun x hx => by simpa [Lit.wf, IntKind.min, IntKind.max, IntKind.signed, IntKind.bits] using hw x hx
    have hlen : (zs.take l0).length = l0 := by rw [List.length_take]; omega
    have hil : (intsV (zs.take l0)).length = l0 := (List.length_map _).trans hlen
    obtain ⟨b, off, spot⟩ := a
    refine key (zs.take l0) (fun _ => True) (fun x hx => hw' x (List.mem_of_mem_take hx)) (by rw [hlen]; unfold maxLen at hm; omega) ⟨⟨some ⟨b, off, spot⟩, c0, by rw [hil], by rw [hil]; exact hl, fun h0 => ?_⟩⟩
    rw [hil] at h0
    have hc0 := hc 0 (by omega)
    have hspot : spot = none := by simpa [Addr.add] using World.cell?_spot hc0
    subst hspot
    refine ⟨b, off, rfl, trivial, ?_, fun i u hi => ?_⟩
    · exact cellN_lt hc0
    · obtain ⟨h1, h2, rfl⟩ := intsV_take hi
      have hh := hc i h2
      simp only [Addr.add] at hh
      split at hh
      · next h0 => subst h0; exact hh
      · exact hh
end Go.Proofs.YtnaphhfmccbamaaGreatDoor

namespace Go.Proofs.YtnaphhfmccbamaaGreatDoor
open Go.RowKit Go.ChangeShapes Go.WideShapes Go.ChangeAt

theorem map_take {k : IntKind} {zs : List Int} {n i : Nat} {u : Value} (h : ((zs.take n).map (Value.int k))[i]? = some u) : i < zs.length ∧ u = .int k (zs.getD i 0) := by
  rw [List.getElem?_map] at h
  cases hx : (zs.take n)[i]? with
  | none => rw [hx] at h; cases h
  | some x =>
    rw [hx] at h
    cases h
    obtain ⟨hi, rfl⟩ := List.getElem?_eq_some_iff.1 hx
    rw [List.length_take] at hi
    exact ⟨by omega, by rw [List.getElem_take, List.getD_eq_getElem?_getD, List.getElem?_eq_getElem (by omega)]; rfl⟩
theorem open_sl {H : Type} {enc : TypeId × Value → H} {P : Program} {W : World} {t e : TypeId} {k : IntKind} {fuel : Nat} {a0 : Option Addr} {l0 c0 : Nat} {x : DataW H × List MemPlace} (ht : P.underlying t = some (.slice e)) (he : P.underlying e = some (.int k)) (hc : P.cellsOf e = 1)
    (hf : DataW.trod enc P W 0 (fun _ => true) true fuel t (Value.slice a0 l0 c0).cells.toList = some x) :
    ∃ zs : List Int, zs.length = l0 ∧ l0 ≤ maxLen ∧ (∀ n ∈ zs, (Lit.int k n).wf = true) ∧ Sl (fun _ => True) W (.slice a0 l0 c0) (zs.map (Value.int k)) := by
  rcases open_ints ht he hc hf with ⟨hcs, hx⟩ | ⟨a, len, cap, zs, hcs, hb, hl, hm, hz, hx, hcl, hw⟩
  · cases hcs
    exact ⟨[], rfl, Nat.zero_le _, by simp, Sl.nil _ _⟩
  · cases hcs
    have hzl : l0 ≤ zs.length := by rw [hz]; split <;> omega
    have hlen : (zs.take l0).length = l0 := by rw [List.length_take]; omega
    have hil : ((zs.take l0).map (Value.int k)).length = l0 := (List.length_map _).trans hlen
    obtain ⟨b, off, spot⟩ := a
    refine ⟨zs.take l0, hlen, by omega, fun n hn => hw n (List.mem_of_mem_take hn), ⟨⟨some ⟨b, off, spot⟩, c0, by rw [hil], by rw [hil]; exact hl, fun h0 => ?_⟩⟩⟩
    rw [hil] at h0
    have hc0 := hcl 0 (by omega)
    have hspot : spot = none := by simpa [Addr.add] using World.cell?_spot hc0
    subst hspot
    refine ⟨b, off, rfl, trivial, cellN_lt hc0, fun i u hi => ?_⟩
    obtain ⟨h2, rfl⟩ := map_take hi
    have hh := hcl i h2
    simp only [Addr.add] at hh
    split at hh
    · next h0 => subst h0; exact hh
    · exact hh
theorem bytesV_of_ints : ∀ (zs : List Int), (∀ n ∈ zs, (Lit.int .u8 n).wf = true) → zs.map (Value.int .u8) = bytesV (zs.map fun n => UInt8.ofNat n.toNat)
  | [], _ => rfl
  | n :: r, h => by
    have hn : 0 ≤ n ∧ n ≤ 255 := by simpa [Lit.wf, IntKind.min, IntKind.max, IntKind.signed, IntKind.bits] using h n (.head _)
    have := bytesV_of_ints r (fun m hm => h m (.tail _ hm))
    have hv : ((UInt8.ofNat n.toNat).toNat : Int) = n := by
      have : (UInt8.ofNat n.toNat).toNat = n.toNat % 256 := by simp
      omega
    simp only [List.map_cons, this]
    simp only [bytesV, List.map_cons, byteV, hv]
theorem open_bytesN {H : Type} {enc : TypeId × Value → H} {P : Program} {W : World} {t e : TypeId} {fuel : Nat} {a0 : Option Addr} {l0 c0 : Nat} {x : DataW H × List MemPlace} (ht : P.underlying t = some (.slice e)) (he : P.underlying e = some (.int .u8)) (hc : P.cellsOf e = 1)
    (hf : DataW.trod enc P W 0 (fun _ => true) true fuel t (Value.slice a0 l0 c0).cells.toList = some x) :
    ∃ l : List UInt8, l.length = l0 ∧ l0 ≤ maxLen ∧ Sl (fun _ => True) W (.slice a0 l0 c0) (bytesV l) := by
  obtain ⟨zs, h1, h2, h3, h4⟩ := open_sl ht he hc hf
  exact ⟨_, by rw [List.length_map, h1], h2, bytesV_of_ints zs h3 ▸ h4⟩
theorem okWide_size {P : Program} {W : World} {t : TypeId} {s : ByteArray} {b0 : Nat} {r : Reach} (ht : P.underlying t = some .string) (h : Value.okWide P W r b0 t (.string s)) : s.size ≤ 9223372036854775807 := by
  have h2 : IntKind.i64.max = 9223372036854775807 := rfl
  have h3 : (s.size : Int) ≤ IntKind.i64.max := by simpa [Value.okWide, Cell.okWide, Cell.ok, ht] using h
  omega
end Go.Proofs.YtnaphhfmccbamaaGreatDoor
