/- NativesNames: for every suite, id and bytes the law returns true and leaves its arguments as they were (the tied card). -/
import Derived.Test.YtnaphhfmccbamaaGreatDoorPr01
import Derived.Test.YtnaphhfmccbamaaGreatDoorPr14
namespace Go.Proofs.YtnaphhfmccbamaaGreatDoor
open Go.RowKit

theorem names_tests (c : Nat) : (okRune c = true ∧ ((decide ((97 : Int) ≤ (c : Int)) = true ∧ decide ((c : Int) ≤ 122) = true) ∨ (decide ((97 : Int) ≤ (c : Int)) = false ∧ decide ((48 : Int) ≤ (c : Int)) = true ∧ decide ((c : Int) ≤ 57) = true) ∨ c = 95 ∨ c = 45)) ∨
    (okRune c = false ∧ ((c : Int) == 95) = false ∧ ((c : Int) == 45) = false ∧ ((decide ((97 : Int) ≤ (c : Int)) = true ∧ decide ((c : Int) ≤ 122) = false ∧ decide ((48 : Int) ≤ (c : Int)) = true ∧ decide ((c : Int) ≤ 57) = false) ∨ (decide ((97 : Int) ≤ (c : Int)) = false ∧ decide ((48 : Int) ≤ (c : Int)) = true ∧ decide ((c : Int) ≤ 57) = false) ∨ (decide ((97 : Int) ≤ (c : Int)) = false ∧ decide ((48 : Int) ≤ (c : Int)) = false))) := by
  unfold okRune
  simp only [decide_eq_true_eq, decide_eq_false_iff_not, Bool.or_eq_true, Bool.and_eq_true, Bool.or_eq_false_iff, Bool.and_eq_false_iff, beq_iff_eq, beq_eq_false_iff_ne]
  omega
set_option maxRecDepth 100000 in
set_option maxHeartbeats 1000000 in
theorem RefIsName_any (s : ByteArray) (hs : s.size ≤ 9223372036854775807) (w : World) :
    Calls Tryz.prog 21 #[.string s] w fun e w' => e = .returned (.bool (nameB s)) ∧ Below w.heap.size w w' := by
  have HS := Lib.hid hs
  clear hs
  go_enter Tryz.func21, Tryz.ntmps21
  go_wp2
  go_loopw [3] (fun i wr => ∃ k : Nat, k ≤ s.size ∧ i = .int .i64 k ∧ Hid (allOk (s.data.toList.take k) = true) ∧ Hid (Kp (fun _ => False) w wr)) (fun i _ => s.size - (intOf i).toNat)
  case atStart => exact ⟨0, Nat.zero_le _, rfl, Lib.hid (by simp [allOk]), Lib.hid (Kp.refl _ _)⟩
  case round =>
    obtain ⟨k, hk, rfl, HA, HK⟩ := hrel
    by_cases hlt : k < s.size
    · have hl : k < s.data.toList.length := by simpa using hlt
      obtain ⟨c, hc⟩ : ∃ c : Nat, (s[k]'hlt).toNat = c := ⟨_, rfl⟩
      have hstep : allOk (s.data.toList.take (k + 1)) = okRune c := by
        rw [allOk_take _ k hl, HA.out, Bool.true_and, ← hc]
        rfl
      have HT := Lib.hid hstep
      have hi : 0 ≤ (k : Int) ∧ (k : Int) < s.size := by omega
      clear hstep hl
      have hw : wrap64 ((k : Int) + 1) = k + 1 := by
        have := HS.out
        unfold wrap64
        omega
      rcases names_tests c with ⟨ho, hq⟩ | ⟨ho, q1, q2, hq⟩
      · have HO := Lib.hid ho
        clear ho
        have fin : (∃ k1 : Nat, k1 ≤ s.size ∧ Value.int .i64 ((k : Int) + 1) = Value.int .i64 k1 ∧ Hid (allOk (s.data.toList.take k1) = true) ∧ Hid (Kp (fun _ => False) w wr)) ∧ s.size - (intOf (Value.int .i64 ((k : Int) + 1))).toNat < s.size - (intOf (Value.int .i64 (k : Int))).toNat :=
          ⟨⟨k + 1, hlt, by simp, Lib.hid (HT.out.trans HO.out), HK⟩, by simp [intOf]; omega⟩
        have FIN := Lib.hid fin
        clear fin
        rcases hq with ⟨q3, q4⟩ | ⟨q3, q4, q5⟩ | rfl | rfl
        all_goals
          go_wp2
          rw [hw]
          exact FIN.out
      · have HO : Hid (nameB s = false) := Lib.hid (by
          cases hn : nameB s with
          | false => rfl
          | true =>
            unfold nameB at hn
            simp only [Bool.and_eq_true] at hn
            have := allOk_prefix _ (k + 1) hn.2
            rw [HT.out, ho] at this
            cases this)
        clear ho
        rcases hq with ⟨q3, q4, q5, q6⟩ | ⟨q3, q4, q5⟩ | ⟨q3, q4⟩
        all_goals
          go_wp2
          go_ret
          exact ⟨by rw [HO.out]; rfl, HK.out.below⟩
    · obtain rfl : k = s.size := by omega
      have hA := HA.out
      rw [List.take_of_length_le (by simp)] at hA
      have HN : Hid (nameB s = (decide (1 ≤ s.size) && decide (s.size ≤ 16))) := Lib.hid (by unfold nameB; rw [hA, Bool.and_true])
      clear hA
      by_cases h1 : 1 ≤ s.size
      · have t1 : decide ((1 : Int) ≤ (s.size : Int)) = true := decide_eq_true (by omega)
        by_cases h2 : s.size ≤ 16
        · have t2 : decide ((s.size : Int) ≤ 16) = true := decide_eq_true (by omega)
          have HR : Hid (nameB s = true) := Lib.hid (by rw [HN.out]; simp [h1, h2])
          clear h1 h2
          go_wp2
          go_ret
          exact ⟨by rw [HR.out]; rfl, HK.out.below⟩
        · have t2 : decide ((s.size : Int) ≤ 16) = false := decide_eq_false (by omega)
          have HR : Hid (nameB s = false) := Lib.hid (by rw [HN.out]; simp [h2])
          clear h1 h2
          go_wp2
          go_ret
          exact ⟨by rw [HR.out]; rfl, HK.out.below⟩
      · have t1 : decide ((1 : Int) ≤ (s.size : Int)) = false := decide_eq_false (by omega)
        have HR : Hid (nameB s = false) := Lib.hid (by rw [HN.out]; simp [h1])
        clear h1
        go_wp2
        go_ret
        exact ⟨by rw [HR.out]; rfl, HK.out.below⟩
end Go.Proofs.YtnaphhfmccbamaaGreatDoor

namespace Go.Proofs.YtnaphhfmccbamaaGreatDoor
open Go.RowKit

section
variable {w : World} {v : Nat} {sp : Option Addr} {suite : ByteArray} {lv : Value}
theorem OpenC.of {w W : World} {v : Value} {cr : Bool} {er : Nat} (h : OpenC W v cr er (fun k w1 => k = 0 ∧ Below W.heap.size W w1)) (k : Kp (fun _ => False) w W) : OpenC W v cr er (fun k w1 => k = 0 ∧ Below w.heap.size w w1) :=
  h.mono fun _ _ ⟨n, ver, A, kk, c, he, hk0, hb⟩ => ⟨n, ver, A, kk, c, he, hk0, k.below.trans (hb.mono k.size)⟩
theorem Kp.of_post {w w' : World} (h : ∃ k w1, (k = 0 ∧ Below w.heap.size w w1) ∧ Kp (fun _ => False) w1 w') : Below w.heap.size w w' := by
  obtain ⟨_, w1, ⟨_, h1⟩, h2⟩ := h
  exact h1.trans (h2.below.mono h1.size)
theorem nilO (w : World) (cr : Bool) : ∀ W, Kp (fun _ => False) w W → OpenC W (.pointer none) cr 5 (fun k w1 => k = 0 ∧ Below w.heap.size w w1) := fun W k => OpenC.of (openC_nil W cr) k
theorem badO (hb : Blk w v 63 #[.pointer sp, .string suite, lv]) (hs : nameB suite = false) (cr : Bool) : ∀ W, Kp (fun _ => False) w W → OpenC W (.pointer (some ⟨v, 0, none⟩)) cr 13 (fun k w1 => k = 0 ∧ Below w.heap.size w w1) := fun W k => OpenC.of (openC_bad W v sp suite lv (hb.kp k (fun x => x)) cr hs) k
/-- An environment whose open tells an error, in every world that has only grown. -/
def BadE (w : World) (vp : Option Addr) (er : Nat) : Prop := er ≠ 0 ∧ er ≠ 11 ∧ ∀ cr W, Kp (fun _ => False) w W → OpenC W (.pointer vp) cr er (fun k w1 => k = 0 ∧ Below w.heap.size w w1)
theorem BadE.kp {w w' : World} {vp : Option Addr} {er : Nat} (h : BadE w vp er) (k : Kp (fun _ => False) w w') (he : ∀ cr W, Kp (fun _ => False) w' W → OpenC W (.pointer vp) cr er (fun k w1 => k = 0 ∧ Below w'.heap.size w' w1)) : BadE w' vp er := ⟨h.1, h.2.1, he⟩
theorem badE_nil (w : World) : BadE w none 5 := ⟨by decide, by decide, fun cr => nilO w cr⟩
theorem badE_bad (hb : Blk w v 63 #[.pointer sp, .string suite, lv]) (hs : nameB suite = false) : BadE w (some ⟨v, 0, none⟩) 13 := ⟨by decide, by decide, fun cr => badO hb hs cr⟩
end
section
variable {w : World} {vp : Option Addr} {er : Nat} (h : BadE w vp er)
include h
theorem BadE.count : Calls Tryz.prog 15 #[.pointer vp] w fun e w' => e = .returned (.tuple #[.int .i32 0, .int .i64 er]) ∧ Below w.heap.size w w' :=
  (Count_bad w _ er h.1 h.2.1 _ (h.2.2 false w (Kp.refl _ _))).mono fun _ _ ⟨he, hk⟩ => ⟨he, Kp.of_post hk⟩
theorem BadE.get (id : Int) : Calls Tryz.prog 18 #[.pointer vp, .int .i32 id] w fun e w' => e = .returned (.tuple #[.slice none 0 0, .bool false, .int .i64 er]) ∧ Below w.heap.size w w' :=
  (Get_bad w _ id er h.1 h.2.1 _ (h.2.2 false w (Kp.refl _ _))).mono fun _ _ ⟨he, hk⟩ => ⟨he, Kp.of_post hk⟩
theorem BadE.add (A0 : Option Addr) (n0 c0 : Nat) : Calls Tryz.prog 17 #[.pointer vp, .slice A0 n0 c0] w fun e w' => e = .returned (.tuple #[.int .i32 0, .int .i64 er]) ∧ Below w.heap.size w w' :=
  (Add_bad w _ A0 n0 c0 er h.1 _ (h.2.2 true w (Kp.refl _ _))).mono fun _ _ ⟨he, hk⟩ => ⟨he, Kp.of_post hk⟩
theorem BadE.set (id : Int) (A0 : Option Addr) (n0 c0 : Nat) : Calls Tryz.prog 19 #[.pointer vp, .int .i32 id, .slice A0 n0 c0] w fun e w' => e = .returned (.int .i64 er) ∧ Below w.heap.size w w' :=
  (Set_bad w vp id A0 n0 c0 er h.1 _ (h.2.2 false)).mono fun _ _ ⟨he, hk⟩ => ⟨he, Kp.of_post hk⟩
theorem BadE.del (id : Int) : Calls Tryz.prog 20 #[.pointer vp, .int .i32 id] w fun e w' => e = .returned (.int .i64 er) ∧ Below w.heap.size w w' :=
  (Del_bad w vp id er h.1 _ (h.2.2 false)).mono fun _ _ ⟨he, hk⟩ => ⟨he, Kp.of_post hk⟩
end
set_option maxRecDepth 100000 in
set_option maxHeartbeats 1000000 in
theorem NativesNames_any (w : World) (ht : Lib.TabIs Tryz.prog w "internal/strconv.uint64pow10" .u64 Lib.pow10Tab) (suite : ByteArray) (hz : suite.size ≤ 9223372036854775807) (id : Int) (h1 : -2147483648 ≤ id) (h2 : id ≤ 2147483647) (l : List UInt8) (hlen : l.length ≤ 9223372036854775807) (ok : Nat → Prop) (A0 : Option Addr) (c0 : Nat) (hv : Sl ok w (.slice A0 l.length c0) (bytesV l)) :
    Calls Tryz.prog 5 #[.string suite, .int .i32 id, .slice A0 l.length c0] w fun e w' => e = .returned (.bool true) ∧ Below w.heap.size w w' := by
  have HV := Lib.hid (hv.mono (ok' := fun b => b < w.heap.size) (fun b _ h => h))
  have HT := Lib.hid ht
  have HI := Lib.hid (And.intro h1 h2)
  have HF := Lib.hid (fixed_ok w ht)
  have HN := Lib.hid (fun W => RefIsName_any suite hz W)
  clear hv ht h1 h2
  by_cases h200 : suite.size ≤ 200
  · have t1 : decide ((200 : Int) < (suite.size : Int)) = false := decide_eq_false (by omega)
    by_cases h300 : l.length ≤ 300
    · have t2 : decide ((300 : Int) < (l.length : Int)) = false := decide_eq_false (by omega)
      cases hnm : nameB suite with
      | false =>
        have HNM := Lib.hid hnm
        clear hnm
        go_enter Tryz.func5, Tryz.ntmps5
        go_wp2_with fail
        refine HF.out.mono ?_
        rintro e w1 ⟨rfl, hb1⟩
        have HK1 := Lib.hid (Kp.of_below hb1 (fun _ => False))
        clear hb1
        go_wp2_with fail
        refine (store_ok w1).mono ?_
        rintro e w2 ⟨s, p, pb, pw, g, m, rfl, hm⟩
        have HM := Lib.hid hm
        clear hm
        go_wp2_with fail
        refine (New_any w2 (some ⟨s, 0, none⟩) suite).mono ?_
        rintro e w3 ⟨rfl, he, hb⟩
        obtain ⟨v, hvz⟩ : ∃ v, w2.heap.size = v := ⟨_, rfl⟩
        have hx := fxs_start HM.out he hb
        rw [hvz] at hx ⊢
        have HX := Lib.hid hx
        clear he hb hx hvz
        go_wp2_with fail
        refine ((badE_bad HX.out.env.blk HNM.out).add _ _ _).mono ?_
        rintro e w4 ⟨rfl, hb4⟩
        have HX4 := Lib.hid (HX.out.below (Kp.of_below hb4 _))
        clear hb4
        go_wp2_with fail
        refine ((badE_bad HX4.out.env.blk HNM.out).count).mono ?_
        rintro e w5 ⟨rfl, hb5⟩
        have HX5 := Lib.hid (HX4.out.below (Kp.of_below hb5 _))
        clear hb5
        go_wp2_with fail
        refine ((badE_bad HX5.out.env.blk HNM.out).get id).mono ?_
        rintro e w6 ⟨rfl, hb6⟩
        have HX6 := Lib.hid (HX5.out.below (Kp.of_below hb6 _))
        clear hb6
        go_wp2_with fail
        refine (Print_nil w6 1).mono ?_
        rintro e w7 ⟨rfl, hq⟩
        subst hq
        go_wp2_with fail
        refine (Text_nil w6 _).mono ?_
        rintro e w7 ⟨rfl, hq⟩
        subst hq
        go_wp2_with fail
        refine ((badE_nil w6).add _ _ _).mono ?_
        rintro e w7 ⟨rfl, hb7⟩
        have HX7 := Lib.hid (HX6.out.below (Kp.of_below hb7 _))
        clear hb7
        go_wp2_with fail
        refine ((badE_nil w7).count).mono ?_
        rintro e w8 ⟨rfl, hb8⟩
        have HX8 := Lib.hid (HX7.out.below (Kp.of_below hb8 _))
        clear hb8
        go_wp2_with fail
        refine ((badE_nil w8).set id _ _ _).mono ?_
        rintro e w9 ⟨rfl, hb9⟩
        have HX9 := Lib.hid (HX8.out.below (Kp.of_below hb9 _))
        clear hb9
        go_wp2_with fail
        refine ((badE_nil w9).del id).mono ?_
        rintro e w10 ⟨rfl, hb10⟩
        have HX10 := Lib.hid (HX9.out.below (Kp.of_below hb10 _))
        clear hb10
        go_wp2_with fail
        refine (Lines_nil w10).mono ?_
        rintro e w11 ⟨rfl, hq⟩
        subst hq
        go_wp2_with fail
        refine (HN.out w10).mono ?_
        rintro e w11 ⟨he, hb11⟩
        rw [HNM.out] at he
        subst he
        have HX11 := Lib.hid (HX10.out.below (Kp.of_below hb11 _))
        clear hb11
        go_wp2_with fail
        refine ((badE_bad HX11.out.env.blk HNM.out).set id _ _ _).mono ?_
        rintro e w12 ⟨rfl, hb12⟩
        have HX12 := Lib.hid (HX11.out.below (Kp.of_below hb12 _))
        clear hb12
        go_wp2_with fail
        refine ((badE_bad HX12.out.env.blk HNM.out).del id).mono ?_
        rintro e w13 ⟨rfl, hb13⟩
        have HX13 := Lib.hid (HX12.out.below (Kp.of_below hb13 _))
        clear hb13
        go_wp2_with fail
        go_ret
        exact ⟨rfl, HK1.out.below.trans (HX13.out.kp.below.mono HK1.out.size)⟩
      | true =>
        have HNM := Lib.hid hnm
        clear hnm
        go_enter Tryz.func5, Tryz.ntmps5
        go_wp2_with fail
        refine HF.out.mono ?_
        rintro e w1 ⟨rfl, hb1⟩
        have HK1 := Lib.hid (Kp.of_below hb1 (fun _ => False))
        clear hb1
        go_wp2_with fail
        refine (store_ok w1).mono ?_
        rintro e w2 ⟨s, p, pb, pw, g, m, rfl, hm⟩
        have HM := Lib.hid hm
        clear hm
        go_wp2_with fail
        refine (New_any w2 (some ⟨s, 0, none⟩) suite).mono ?_
        rintro e w3 ⟨rfl, he, hb⟩
        obtain ⟨v, hvz⟩ : ∃ v, w2.heap.size = v := ⟨_, rfl⟩
        have hx := fxs_start HM.out he hb
        rw [hvz] at hx ⊢
        have HX := Lib.hid hx
        clear he hb hx hvz
        go_wp2_with fail
        have hvs : Sl (fun b => b < w1.heap.size) _ (.slice A0 l.length c0) (bytesV l) := ((HV.out.mono (ok' := fun b => b < w1.heap.size) (fun b h _ => Nat.lt_of_lt_of_le h HK1.out.size)).kp HK1.out (fun _ _ _ x => x)).kp HX.out.kp (fun _ _ _ x => x)
        have hlo := HX.out.hi
        refine (NAdd_first w1 w3 s p pb pw g m v _ suite _ [] HX.out [] 5 HM.out.bi (by omega) rfl (by decide) HNM.out l (by omega) _ _ hvs (fun b hb => by omega)).mono ?_
        rintro e w4 ⟨rfl, B2, a, b, hx, hidx⟩
        have HX4 := Lib.hid hx
        have HID := Lib.hid hidx
        have HR := Lib.hid (show RcOk (rc0.added l) from rc0_ok.added (by omega) (by decide) (by decide) (by decide))
        clear hx hidx hvs hlo
        go_wp2_with fail
        refine (Count_good w4 _ 0 (.inl rfl) _ (fun k w' h => by rw [h.1]; show (1 : Nat) ≤ 64; decide) (openC_ok w4 v s p pb pw g m B2 HX4.out.st suite _ HX4.out.env.blk HNM.out _ HR.out a b HID.out false)).mono ?_
        rintro e w5 ⟨k5, w5', rfl, ⟨_, hb5⟩, hk5⟩
        have HX5 := Lib.hid (HX4.out.below ((Kp.of_below hb5 _).trans hk5 (fun _ x _ => x)))
        clear hb5 hk5 w5'
        go_wp2_with fail
        refine (NGet_ok w5 v s p pb pw g m B2 HX5.out.st suite _ HX5.out.env.blk HNM.out _ HR.out a b HID.out id HI.out.1 HI.out.2).mono ?_
        rintro e w6 ⟨hg, hb6⟩
        have HX6 := Lib.hid (HX5.out.below (Kp.of_below hb6 _))
        have hg' : ∃ A n c f, e = .returned (.tuple #[.slice A n c, .bool f, .int .i64 0]) := by
          obtain ⟨hg⟩ := hg
          rcases hg with ⟨k, hk, dv, _, he, hs⟩ | ⟨_, he⟩
          · obtain ⟨A, c, rfl, _⟩ := hs.form
            exact ⟨A, _, c, true, he⟩
          · exact ⟨none, 0, 0, false, he⟩
        obtain ⟨gA, gn, gc, gf, rfl⟩ := hg'
        clear hg hb6
        go_wp2_with fail
        refine (Print_nil w6 1).mono ?_
        rintro e w7 ⟨rfl, hq⟩
        subst hq
        go_wp2_with fail
        refine (Text_nil w6 _).mono ?_
        rintro e w7 ⟨rfl, hq⟩
        subst hq
        go_wp2_with fail
        refine ((badE_nil w6).add _ _ _).mono ?_
        rintro e w7 ⟨rfl, hb7⟩
        have HX7 := Lib.hid (HX6.out.below (Kp.of_below hb7 _))
        clear hb7
        go_wp2_with fail
        refine ((badE_nil w7).count).mono ?_
        rintro e w8 ⟨rfl, hb8⟩
        have HX8 := Lib.hid (HX7.out.below (Kp.of_below hb8 _))
        clear hb8
        go_wp2_with fail
        refine ((badE_nil w8).set id _ _ _).mono ?_
        rintro e w9 ⟨rfl, hb9⟩
        have HX9 := Lib.hid (HX8.out.below (Kp.of_below hb9 _))
        clear hb9
        go_wp2_with fail
        refine ((badE_nil w9).del id).mono ?_
        rintro e w10 ⟨rfl, hb10⟩
        have HX10 := Lib.hid (HX9.out.below (Kp.of_below hb10 _))
        clear hb10
        go_wp2_with fail
        refine (Lines_nil w10).mono ?_
        rintro e w11 ⟨rfl, hq⟩
        subst hq
        go_wp2_with fail
        refine (HN.out w10).mono ?_
        rintro e w11 ⟨he, hb11⟩
        rw [HNM.out] at he
        subst he
        have HX11 := Lib.hid (HX10.out.below (Kp.of_below hb11 _))
        clear hb11
        go_wp2_with fail
        go_ret
        exact ⟨rfl, HK1.out.below.trans (HX11.out.kp.below.mono HK1.out.size)⟩
    · have t2 : decide ((300 : Int) < (l.length : Int)) = true := decide_eq_true (by omega)
      go_enter Tryz.func5, Tryz.ntmps5
      go_wp2_with fail
      refine HF.out.mono ?_
      rintro e w1 ⟨rfl, hb1⟩
      have HB1 := Lib.hid hb1
      clear hb1
      go_wp2_with fail
      go_ret
      exact ⟨rfl, HB1.out⟩
  · have t1 : decide ((200 : Int) < (suite.size : Int)) = true := decide_eq_true (by omega)
    go_enter Tryz.func5, Tryz.ntmps5
    go_wp2_with fail
    refine HF.out.mono ?_
    rintro e w1 ⟨rfl, hb1⟩
    have HB1 := Lib.hid hb1
    clear hb1
    go_wp2_with fail
    go_ret
    exact ⟨rfl, HB1.out⟩
end Go.Proofs.YtnaphhfmccbamaaGreatDoor

namespace Go.Proofs.YtnaphhfmccbamaaGreatDoor
open Go.RowKit Go.ChangeShapes Go.WideShapes Go.ChangeAt

set_option maxRecDepth 100000 in
theorem names_lifted (os : Os) (started : os.Started) (H : Type) (enc : TypeId × Value → H) :
    ReturnsInHanded {} Tryz.checked os 5 .any (fun w args => (Rows.nativesNamesSpec.pre enc Tryz.prog Tryz.f5 [] false w args ∧ laidMetH Tryz.prog laidN w) ∧ sizedMet enc Tryz.prog Tryz.f5 (OpenSpec.ofChange Rows.nativesNamesSpec) false w args)
      (Rows.nativesNamesSpec.post enc Tryz.prog Tryz.f5 false true false false) := by
  refine returnsInHanded_of_change_and (C := Tryz.checked) (X := fun w _ => laidMetH Tryz.prog laidN w) (fun _ _ _ hh h => h.of_heap hh) ownN started (by kernel_rfl) Tryz.func5
    (ChangeSpec.witness_shaped (enc := enc) (C := Tryz.checked) (os := os) (X := fun w _ => laidMetH Tryz.prog laidN w) false (World.laidAll Tryz.prog os laidN) #[.string ⟨#[]⟩, .int .i32 0, .slice none 0 0] 8 (World.laidAll_os _ _ _)
      (World.shaped_of_ZipB (by kernel_rfl) (by kernel_rfl)) (by kernel_rfl) (by kernel_rfl) (by kernel_rfl)
      (by rw [MakeChecks.laidMetH_plain _ _ _ (by kernel_rfl)]; exact laidMet_laidAll _ (by kernel_rfl) (by kernel_rfl))) ?_
  intro W base args ds gs before hval0 hW _ _ hL _
  have hval : ∀ (j : Nat) t v, Tryz.f5.params[j]? = some t → args[j]? = some v → Value.okWide Tryz.prog W .any base t v := hval0
  have hW' := hW
  obtain ⟨p, q, hA0, hV, rfl, _, _⟩ := hW
  have hA : DataW.TrodAll enc Tryz.prog W 0 (fun _ => true) true Tryz.f5.params.toList args.toList ds p := hA0
  rw [Tryz.params5] at hA hval
  obtain ⟨v0, v1, v2, d0, d1, d2, p0, p1, p2, rfl, rfl, rfl, h0, h1, h2⟩ := trodAll_three hA
  obtain ⟨rfl, rfl⟩ := trodVars_none hV
  have k0 := h0
  have k1 := h1
  have k2 := h2
  obtain ⟨suite, rfl⟩ := okWide_string Tryz.underlying9 (hval 0 9 v0 rfl rfl)
  have hz := okWide_size Tryz.underlying9 (hval 0 9 _ rfl rfl)
  obtain ⟨id, rfl, _, _, wid⟩ := open_int Tryz.underlying21 (hval 1 21 v1 rfl rfl) h1
  have hid : -2147483648 ≤ id ∧ id ≤ 2147483647 := by simpa [Lit.wf, IntKind.min, IntKind.max, IntKind.signed, IntKind.bits] using wid
  obtain ⟨a0, l0, c0, rfl⟩ := okWide_slice Tryz.underlying31 (hval 2 31 v2 rfl rfl)
  obtain ⟨fuel, hf⟩ := h2
  obtain ⟨l, rfl, hm, hsl⟩ := open_bytesN Tryz.underlying31 Tryz.underlying5 (show Tryz.prog.cellsOf 5 = 1 by kernel_rfl) hf
  clear hA0 hval0
  simp only [List.append_nil] at hW'
  have hlt : ∀ x ∈ p0 ++ p1 ++ p2, x.block < W.heap.size := fun x hx => by simpa using hW'.lt x hx
  refine (NativesNames_any W (tabN hL) suite hz id hid.1 hid.2 l (by unfold maxLen at hm; omega) (fun _ => True) a0 c0 hsl).mono fun e W' ⟨he, hb⟩ => ?_
  subst he
  have hT3 : DataW.TrodAll enc Tryz.prog W' 0 (fun b => decide (b < W.heap.size)) true [9, 21, 31] [.string suite, .int .i32 id, .slice a0 l.length c0] [d0, d1, d2] (p0 ++ p1 ++ p2) := by
    rw [List.append_assoc]
    exact trodAll_mk3 (Below.trod laidOutN (by kernel_rfl) (of_decide_eq_true (by kernel_rfl)) k0 hb (fun x hx => hlt x (by simp [hx]))) (Below.trod laidOutN (by kernel_rfl) (of_decide_eq_true (by kernel_rfl)) k1 hb (fun x hx => hlt x (by simp [hx]))) (Below.trod laidOutN (by kernel_rfl) (of_decide_eq_true (by kernel_rfl)) k2 hb (fun x hx => hlt x (by simp [hx])))
  refine ⟨_, rfl, _, _, _, [], p0 ++ p1 ++ p2, [], hW', ?_, hT3, rfl, hb.frame _, fun h => by cases h⟩
  exact trodAll_mk1 (shut_bool Tryz.underlying4 _)
end Go.Proofs.YtnaphhfmccbamaaGreatDoor

namespace Go.Proofs.YtnaphhfmccbamaaGreatDoor
open Go.RowKit Go.ChangeShapes Go.WideShapes Go.ChangeAt

set_option maxRecDepth 100000 in
theorem nativesNames_holds : Rows.NativesNamesSaid :=
  OpenClaim.holds_of_wide 5 Tryz.f5 rfl rfl rfl rfl rfl rfl rfl ⟨rfl, rfl, rfl, rfl, rfl⟩ rfl rfl rfl rfl rfl (by kernel_rfl) Tryz.func5 (by kernel_rfl)
    (of_decide_eq_true (by kernel_rfl)) (by unfold Func.isWrapper; first | (rw [if_pos (by decide +kernel)]; kernel_rfl) | (rw [if_neg (by decide +kernel)]; exact ⟨rfl, rfl⟩))
    (fun os started H enc _ => names_lifted os started H enc)

theorem nativesNames_card : Rows.NativesNamesCardSaid :=
  Claim7.holds_tied_plain_at .later [] [.data, .data, .data] true (true, "2804728d85cf04258c4025367009e3afac90c26f8e6f593da08193f2f3cd21b9") false
    nativesNames_holds (fun _ h => by cases h) (by kernel_rfl) (fun _ h => by cases h) nativesNames_row_tie rfl ⟨rfl, rfl⟩ (by kernel_rfl) rfl
    (fun f fn hf hfn => by
      obtain rfl : f = 5 := Option.some.inj ((show Tryz.prog.funcNamed "carpetbag/carpetbaglaw28.NativesNames" = some 5 by kernel_rfl).symm.trans hf) |>.symm
      obtain rfl : fn = Tryz.f5 := (Option.some.inj (Tryz.func5.symm.trans hfn)).symm
      exact ⟨by kernel_rfl, fun j t ht => by
        rw [Tryz.params5] at ht
        have hm : t ∈ [9, 21, 31] := by simpa using Array.mem_of_getElem? ht
        have hall : ([9, 21, 31].all fun u => !Tryz.prog.wantsStandIn u) = true := by kernel_rfl
        exact (show Tryz.prog.wantsStandIn t = false by simpa using List.all_eq_true.1 hall t hm)⟩)
    (by kernel_rfl)
#print axioms nativesNames_card
end Go.Proofs.YtnaphhfmccbamaaGreatDoor
