/- Contract of the store's records at one change that puts. Contract of the store's Commit at one change that puts, where there is room. Contracts of rms.keep and rms.change, over what the store's Commit tells. A store that was never cleaned: what holds of it, and that a put keeps it so. Contract of the store's replay where no sector is used. Contracts of slices.SortStableFunc at no elements. -/
import Derived.Test.YtnaphhfmccbamaaGreatDoorPr09
import Derived.Test.YtnaphhfmccbamaaGreatDoorPr03
import Derived.Test.YtnaphhfmccbamaaGreatDoorPr08
namespace Go.Proofs.YtnaphhfmccbamaaGreatDoor
open Go.RowKit

/-- The value lv is a slice of one change. -/
structure OneChange (ok : Nat → Prop) (w : World) (lv : Value) (del : Bool) (key : ByteArray) (bv : Value) : Prop where
  out : ∃ gr c, lv = .slice (some ⟨gr, 0, none⟩) 1 c ∧ 1 ≤ c ∧ ok gr ∧ gr < w.heap.size ∧ w.cell? ⟨gr, 0, none⟩ = some (.bool del) ∧ w.cell? ⟨gr, 1, none⟩ = some (.string key) ∧ w.cell? ⟨gr, 2, none⟩ = some bv

structure RecS (X : World) (n7 : Nat) (key : ByteArray) (bv : Value) (blob : List UInt8) (L : Nat → Prop) (V : Nat → Value) (W : World) : Prop where
  kp : Kp (fun _ => False) X W
  ch : Blk W n7 199 #[.bool false, .string key, bv]
  v0 : L 0 → V 0 = .pointer (some ⟨n7, 1, none⟩)
  v1 : L 1 → V 1 = .string key
  v2 : L 2 → V 2 = .pointer (some ⟨n7, 2, none⟩)
  v3 : L 3 → V 3 = bv
  v4 : L 4 → ∃ A c, V 4 = .slice A blob.length c ∧ Sl (fun b => X.heap.size ≤ b ∧ (L 6 → V 6 ≠ .pointer (some ⟨b, 0, none⟩))) W (V 4) (bytesV blob)
  v5 : L 5 → V 5 = .agg #[.int .i64 1, .int .u32 1, .string key, V 4, .int .i64 0]
  v6 : L 6 → ∃ n8, V 6 = .pointer (some ⟨n8, 0, none⟩) ∧ X.heap.size ≤ n8 ∧ (L 7 → Blk W n8 183 #[.int .i64 1, .int .u32 1, .string key, V 4, .int .i64 0]) ∧ (¬ L 7 → Blk W n8 183 #[.int .i64 0, .int .u32 0, .string ⟨#[]⟩, .slice none 0 0, .int .i64 0])

section
variable {X W : World} {n7 : Nat} {key : ByteArray} {bv : Value} {blob : List UInt8} {L : Nat → Prop} {V : Nat → Value}
theorem RecS.s0 (h : RecS X n7 key bv blob L V W) : RecS X n7 key bv blob (fun j => L j ∨ j = 0) (upd V 0 (.pointer (some ⟨n7, 1, none⟩))) W := by
  refine ⟨h.kp, h.ch, ?_, ?_, ?_, ?_, ?_, ?_, ?_⟩
  · intro _; simp [upd]
  · simpa [upd] using h.v1
  · simpa [upd] using h.v2
  · simpa [upd] using h.v3
  · simpa [upd] using h.v4
  · simpa [upd] using h.v5
  · simpa [upd] using h.v6
theorem RecS.s1 (h : RecS X n7 key bv blob L V W) : RecS X n7 key bv blob (fun j => L j ∨ j = 1) (upd V 1 (.string key)) W := by
  refine ⟨h.kp, h.ch, ?_, ?_, ?_, ?_, ?_, ?_, ?_⟩
  · simpa [upd] using h.v0
  · intro _; simp [upd]
  · simpa [upd] using h.v2
  · simpa [upd] using h.v3
  · simpa [upd] using h.v4
  · simpa [upd] using h.v5
  · simpa [upd] using h.v6
theorem RecS.s2 (h : RecS X n7 key bv blob L V W) : RecS X n7 key bv blob (fun j => L j ∨ j = 2) (upd V 2 (.pointer (some ⟨n7, 2, none⟩))) W := by
  refine ⟨h.kp, h.ch, ?_, ?_, ?_, ?_, ?_, ?_, ?_⟩
  · simpa [upd] using h.v0
  · simpa [upd] using h.v1
  · intro _; simp [upd]
  · simpa [upd] using h.v3
  · simpa [upd] using h.v4
  · simpa [upd] using h.v5
  · simpa [upd] using h.v6
theorem RecS.s3 (h : RecS X n7 key bv blob L V W) : RecS X n7 key bv blob (fun j => L j ∨ j = 3) (upd V 3 (bv)) W := by
  refine ⟨h.kp, h.ch, ?_, ?_, ?_, ?_, ?_, ?_, ?_⟩
  · simpa [upd] using h.v0
  · simpa [upd] using h.v1
  · simpa [upd] using h.v2
  · intro _; simp [upd]
  · simpa [upd] using h.v4
  · simpa [upd] using h.v5
  · simpa [upd] using h.v6
theorem RecS.s5 (h : RecS X n7 key bv blob L V W) : RecS X n7 key bv blob (fun j => L j ∨ j = 5) (upd V 5 (.agg #[.int .i64 1, .int .u32 1, .string key, V 4, .int .i64 0])) W := by
  refine ⟨h.kp, h.ch, ?_, ?_, ?_, ?_, ?_, ?_, ?_⟩
  · simpa [upd] using h.v0
  · simpa [upd] using h.v1
  · simpa [upd] using h.v2
  · simpa [upd] using h.v3
  · simpa [upd] using h.v4
  · intro _; simp [upd]
  · simpa [upd] using h.v6
theorem RecS.s4 {W' : World} (h : RecS X n7 key bv blob L V W) (_h4 : ¬ L 4) (h5 : ¬ L 5) (h7 : ¬ L 7) (A : Option Addr) (c : Nat) (hs : Sl (fun b => W.heap.size ≤ b) W' (.slice A blob.length c) (bytesV blob)) (hb : Below W.heap.size W W') :
    RecS X n7 key bv blob (fun j => L j ∨ j = 4) (upd V 4 (.slice A blob.length c)) W' := by
  have k := Kp.of_below hb (fun _ => False)
  have hX := h.kp.size
  refine ⟨h.kp.trans k (fun _ x _ => x), h.ch.kp k (fun x => x), ?_, ?_, ?_, ?_, ?_, ?_, ?_⟩
  · simpa [upd] using h.v0
  · simpa [upd] using h.v1
  · simpa [upd] using h.v2
  · simpa [upd] using h.v3
  · intro _
    refine ⟨A, c, by simp [upd], ?_⟩
    simp only [upd, if_true]
    refine hs.mono (fun b hb _ => ⟨by omega, fun h6 => ?_⟩)
    have h6' : L 6 := by simpa using h6
    obtain ⟨n8, e, _, _, hbl⟩ := h.v6 h6'
    have := (hbl h7).lt
    rw [if_neg (by decide), e]
    intro e2
    injection e2 with e2
    injection e2 with e2
    injection e2 with e2
    omega
  · intro h5'
    exact absurd (by simpa using h5') h5
  · intro h6
    obtain ⟨n8, e, h1, h2, h3⟩ := h.v6 (by simpa using h6)
    refine ⟨n8, by simpa [upd] using e, h1, fun h7' => absurd (by simpa using h7') h7, fun _ => (h3 h7).kp k (fun x => x)⟩
theorem RecS.s6 (h : RecS X n7 key bv blob L V W) (_h6 : ¬ L 6) (h7 : ¬ L 7) :
    RecS X n7 key bv blob (fun j => L j ∨ j = 6) (upd V 6 (.pointer (some ⟨W.heap.size, 0, none⟩))) (W.alloc (.cells #[.int .i64 0, .int .u32 0, .string ⟨#[]⟩, .slice none 0 0, .int .i64 0] 183)) := by
  have hX := h.kp.size
  refine ⟨h.kp.alloc _, h.ch.alloc _, ?_, ?_, ?_, ?_, ?_, ?_, ?_⟩
  · simpa [upd] using h.v0
  · simpa [upd] using h.v1
  · simpa [upd] using h.v2
  · simpa [upd] using h.v3
  · intro h4
    obtain ⟨A, c, e, hs⟩ := h.v4 (by simpa using h4)
    refine ⟨A, c, by simpa [upd] using e, ?_⟩
    have e4 : upd V 6 (.pointer (some ⟨W.heap.size, 0, none⟩)) 4 = V 4 := upd_ne _ _ (by decide)
    rw [e4]
    refine (hs.mono (ok' := fun b => X.heap.size ≤ b ∧ b < W.heap.size) (fun b hb hlt => ⟨hb.1, hlt⟩)).kp ((Kp.refl (fun _ => False) W).alloc _) (fun _ _ _ x => x) |>.mono (fun b hb _ => ⟨hb.1, fun _ => ?_⟩)
    rw [upd_same]
    intro e2
    injection e2 with e2
    injection e2 with e2
    injection e2 with e2
    omega
  · simpa [upd] using h.v5
  · intro _
    refine ⟨W.heap.size, by simp [upd], hX, fun h7' => absurd (by simpa using h7') h7, fun _ => Blk.at_top rfl⟩
theorem RecS.s7 (h : RecS X n7 key bv blob L V W) (hn7 : n7 < X.heap.size) (h7 : ¬ L 7) (n8 : Nat) (e8 : V 6 = .pointer (some ⟨n8, 0, none⟩)) (h6 : L 6) (u : Value) :
    RecS X n7 key bv blob (fun j => L j ∨ j = 7) (upd V 7 u) (((((W.setCell ⟨n8, 0, none⟩ (.int .i64 1)).setCell ⟨n8, 1, none⟩ (.int .u32 1)).setCell ⟨n8, 2, none⟩ (.string key)).setCell ⟨n8, 3, none⟩ (V 4)).setCell ⟨n8, 4, none⟩ (.int .i64 0)) := by
  obtain ⟨n8', e, hX, _, hbk⟩ := h.v6 h6
  obtain rfl : n8' = n8 := by rw [e] at e8; injection e8 with e8; injection e8 with e8; injection e8
  have k : Kp (fun b => b = n8') W (((((W.setCell ⟨n8', 0, none⟩ (.int .i64 1)).setCell ⟨n8', 1, none⟩ (.int .u32 1)).setCell ⟨n8', 2, none⟩ (.string key)).setCell ⟨n8', 3, none⟩ (V 4)).setCell ⟨n8', 4, none⟩ (.int .i64 0)) := (Kp.set_ (p := ⟨n8', 4, none⟩) (Kp.set_ (p := ⟨n8', 3, none⟩) (Kp.set_ (p := ⟨n8', 2, none⟩) (Kp.set_ (p := ⟨n8', 1, none⟩) (Kp.set_ (p := ⟨n8', 0, none⟩) (Kp.refl (fun b => b = n8') W) (.inl rfl) _) (.inl rfl) _) (.inl rfl) _) (.inl rfl) _) (.inl rfl) _)
  refine ⟨(Kp.set_ (p := ⟨n8', 4, none⟩) (Kp.set_ (p := ⟨n8', 3, none⟩) (Kp.set_ (p := ⟨n8', 2, none⟩) (Kp.set_ (p := ⟨n8', 1, none⟩) (Kp.set_ (p := ⟨n8', 0, none⟩) h.kp (.inr hX) _) (.inr hX) _) (.inr hX) _) (.inr hX) _) (.inr hX) _), h.ch.kp k (by omega), ?_, ?_, ?_, ?_, ?_, ?_, ?_⟩
  · simpa [upd] using h.v0
  · simpa [upd] using h.v1
  · simpa [upd] using h.v2
  · simpa [upd] using h.v3
  · intro h4
    obtain ⟨A, c, e4, hs⟩ := h.v4 (by simpa using h4)
    refine ⟨A, c, by simpa [upd] using e4, ?_⟩
    rw [show upd V 7 u 4 = V 4 from upd_ne _ _ (by decide), show upd V 7 u 6 = V 6 from upd_ne _ _ (by decide)]
    refine (hs.kp k (fun b hb _ hbe => ?_)).mono (fun b hb _ => ⟨hb.1, fun _ => hb.2 h6⟩)
    subst hbe
    exact hb.2 h6 e
  · simpa [upd] using h.v5
  · intro _
    refine ⟨n8', by simpa [upd] using e, hX, fun _ => ?_, fun h' => absurd (Or.inr rfl) h'⟩
    rw [show upd V 7 u 4 = V 4 from upd_ne _ _ (by decide)]
    exact (((((hbk h7).set_ 0 _).set_ 1 _).set_ 2 _).set_ 3 _).set_ 4 _
end

set_option maxRecDepth 100000 in
set_option maxHeartbeats 4000000 in
theorem records_put (w : World) (key : ByteArray) (hk1 : 1 ≤ key.size) (hks : key.size ≤ 64) (blob : List UInt8) (hbl : blob.length ≤ 4096) (lv bv : Value) (ok : Nat → Prop) (hl : OneChange ok w lv false key bv) (hv : Sl ok w bv (bytesV blob)) :
    Calls Tryz.prog 149 #[lv] w fun e w' => ∃ out bv', e = .returned (.tuple #[out, .int .i64 0]) ∧ OneRec (fun b => w.heap.size ≤ b) w' out 1 1 key bv' ∧ Sl (fun b => w.heap.size ≤ b) w' bv' (bytesV blob) ∧ Below w.heap.size w w' := by
  obtain ⟨gr, lc, rfl, hlc, hgr, hgl, x0, x1, x2⟩ := hl.out
  obtain ⟨bA, bc, rfl, hbc⟩ := hv.form
  rw [bytesV_length] at hv hbc x2
  have HV := Lib.hid hv
  obtain ⟨i0, hi, hz0, hz1, hz2⟩ := info_parts info_rec
  have hmk : (Instr.makeMap 247 none).run Tryz.prog w = .ok (.map (some w.heap.size)) (w.alloc (.map #[] 0)) := by simp [Instr.makeMap, Result.andThen]
  clear hv hl
  go_enter Tryz.func149, Tryz.ntmps149
  go_wp2_with fail
  go_loopw [5, 22] (fun fd i wr => (i = .int .i64 0 ∧ fd = .slice none 0 0 ∧ wr = w.alloc (.map #[] 0)) ∨ (i = .int .i64 1 ∧ ∃ gf cap bv', fd = .slice (some ⟨gf, 0, none⟩) 1 cap ∧ OneRec (fun b => w.heap.size ≤ b) wr fd 1 1 key bv' ∧ Hid (Sl (fun b => w.heap.size ≤ b) wr bv' (bytesV blob)) ∧ Hid (Below w.heap.size w wr) ∧ Hid (∃ vv, MapIs wr w.heap.size [(key, vv)]))) (fun _ i _ => 1 - (intOf i).toNat)
  case atStart => exact .inl ⟨rfl, rfl, rfl⟩
  case round =>
    rcases hrel with ⟨rfl, rfl, rfl⟩ | ⟨rfl, gf, cap, bv', rfl, hrec, HSL, HB, HM⟩
    · go_wp2_with fail
      obtain ⟨X, hX⟩ : ∃ X, (w.alloc (.map #[] 0)).alloc (.cells #[.bool false, .string key, .slice bA blob.length bc] 199) = X := ⟨_, rfl⟩
      have HV1 : Hid (Sl ok X (.slice bA blob.length bc) (bytesV blob)) := Lib.hid (by rw [← hX]; exact HV.out.kp (((Kp.refl (fun _ => False) w).alloc _).alloc _) (fun _ _ _ x => x))
      have HB7 : Hid (Blk X (w.heap.size + 1) 199 #[.bool false, .string key, .slice bA blob.length bc]) := Lib.hid (by rw [← hX]; exact Blk.at_top (by simp))
      have hn7 : w.heap.size + 1 < X.heap.size := HB7.out.lt
      have HMX : Hid (MapIs X w.heap.size []) := Lib.hid (by rw [← hX]; exact (MapIs.made w).alloc _)
      have HKX : Hid (Kp (fun _ => False) w X) := Lib.hid (by rw [← hX]; exact ((Kp.refl _ w).alloc _).alloc _)
      rw [hX]
      clear hX
      refine region_free_all (by kernel_rfl) (RecS X (w.heap.size + 1) key (.slice bA blob.length bc) blob) (by kernel_rfl) ?h0 ?hops ?hend
      case h0 => exact ⟨(Kp.refl _ X).drew, HB7.out.drew, fun h => h.elim, fun h => h.elim, fun h => h.elim, fun h => h.elim, fun h => h.elim, fun h => h.elim, fun h => h.elim⟩
      case hops =>
        refine ⟨?_, ?_, ?_, ?_, ?_, ?_, ?_, ?_, trivial⟩
        all_goals intro L V b W hL hS K hK
        · have q1 := hL.old_ 7 (by kernel_rfl)
          try simp at q1
          go_simp
          exact hK _ _ hS.s0
        · have q1 := hL.dep 0 26 (by kernel_rfl)
          rw [hS.v0 (hL.is_ 0 (by kernel_rfl))] at q1
          have z1 := hS.ch.cell 1
          try simp at q1 z1
          go_simp
          exact hK _ _ hS.s1
        · have q1 := hL.old_ 7 (by kernel_rfl)
          try simp at q1
          go_simp
          exact hK _ _ hS.s2
        · have q1 := hL.dep 2 28 (by kernel_rfl)
          rw [hS.v2 (hL.is_ 2 (by kernel_rfl))] at q1
          have z1 := hS.ch.cell 2
          try simp at q1 z1
          go_simp
          exact hK _ _ hS.s3
        · have q1 := hL.dep 3 29 (by kernel_rfl)
          rw [hS.v3 (hL.is_ 3 (by kernel_rfl))] at q1
          try simp at q1
          have hc := clone_bytes ok _ _ W (HV1.out.kp hS.kp (fun _ _ _ x => x)) (bytesV_one _) (by rw [bytesV_length]; omega)
          go_simp
          refine hc.mono ?_
          rintro e w' ⟨r, rfl, hsl, hb⟩
          obtain ⟨A, c, rfl, _⟩ := hsl.form
          rw [bytesV_length] at hsl ⊢
          exact hK _ _ (hS.s4 hL.fresh (hL.not_ 5 (by kernel_rfl)) (hL.not_ 7 (by kernel_rfl)) A c hsl hb)
        · have q1 := hL.dep 1 27 (by kernel_rfl)
          have q2 := hL.dep 4 30 (by kernel_rfl)
          rw [hS.v1 (hL.is_ 1 (by kernel_rfl))] at q1
          obtain ⟨A, c, e4, _⟩ := hS.v4 (hL.is_ 4 (by kernel_rfl))
          have h5 := hS.s5
          rw [e4] at q2 h5
          try simp at q1 q2
          go_simp
          exact hK _ _ h5
        · go_simp
          exact hK _ _ (hS.s6 hL.fresh (hL.not_ 7 (by kernel_rfl)))
        · have q1 := hL.dep 5 31 (by kernel_rfl)
          have q2 := hL.dep 6 8 (by kernel_rfl)
          obtain ⟨A, c, e4, _⟩ := hS.v4 (hL.is_ 4 (by kernel_rfl))
          rw [hS.v5 (hL.is_ 5 (by kernel_rfl)), e4] at q1
          obtain ⟨n8, e6, _, _, hbk⟩ := hS.v6 (hL.is_ 6 (by kernel_rfl))
          rw [e6] at q2
          have bk := hbk hL.fresh
          obtain ⟨z0, z1, z2, z3, z4⟩ := rec5 bk
          have f0 := bk.frozen 0
          have f1 := bk.frozen 1
          have f2 := bk.frozen 2
          have f3 := bk.frozen 3
          have f4 := bk.frozen 4
          try simp at q1 q2
          have h7 := hS.s7 hn7 hL.fresh n8 e6 (hL.is_ 6 (by kernel_rfl)) undef
          rw [e4] at h7
          go_simp
          exact hK _ _ h7
      case hend =>
        intro L V W hall hS
        have e0 := hS.v0 (hall 0 (by decide))
        have e1 := hS.v1 (hall 1 (by decide))
        have e2 := hS.v2 (hall 2 (by decide))
        have e3 := hS.v3 (hall 3 (by decide))
        obtain ⟨A, c, e4, hsl⟩ := hS.v4 (hall 4 (by decide))
        have e5 := hS.v5 (hall 5 (by decide))
        obtain ⟨n8, e6, hn8, hbk, _⟩ := hS.v6 (hall 6 (by decide))
        have bk := hbk (hall 7 (by decide))
        rw [e4] at bk hsl e5
        simp only [putList_cons, putList_nil, e0, e1, e2, e3, e4, e5, e6]
        go_simp
        have HSL := Lib.hid (hsl.mono (ok' := fun b => w.heap.size < b) (fun b hb _ => by have := hb.1; omega))
        have HBK := Lib.hid bk
        have HCH := Lib.hid hS.ch
        have HK1 : Hid (Kp (fun _ => False) w W) := Lib.hid (HKX.out.trans hS.kp (fun _ x _ => x))
        have HM1 : Hid (MapIs W w.heap.size []) := Lib.hid (HMX.out.kp hS.kp (fun x => x))
        have hWs := hS.kp.size
        obtain ⟨z0, z1, z2, z3, z4⟩ := rec5 bk
        have y0 : W.cell? ⟨w.heap.size + 1, 0, none⟩ = some (.bool false) := hS.ch.cell 0
        clear hS hall e0 e1 e2 e3 e4 e5 e6 hsl bk hbk
        go_wp2_with fail
        have hcall := recBytes_ok 1 1 0 (by omega) (by omega) (by omega) key hks blob hbl W _ _ HSL.out (fun W' => right_put 1 key.size blob.length key _ (by omega) hk1 hks hbl W')
        unfold recV at hcall
        refine hcall.mono ?_
        rintro e w2 ⟨r, rfl, _, hb2⟩
        have k2 := Kp.of_below hb2 (fun _ => False)
        have HBK2 := Lib.hid (HBK.out.kp k2 (fun x => x))
        have HSL2 := Lib.hid (HSL.out.kp k2 (fun _ _ _ x => x))
        have HM2 := Lib.hid (HM1.out.kp k2 (fun x => x))
        have HK2 := Lib.hid (HK1.out.trans k2 (fun _ x _ => x))
        have y1 : w2.cell? ⟨w.heap.size + 1, 1, none⟩ = some (.string key) := (HCH.out.kp k2 (fun x => x)).cell 1
        have hsz2 : W.heap.size ≤ w2.heap.size := k2.size
        obtain ⟨w3, hmu, hm3, hk3⟩ := map_put HM2.out Tryz.underlying247 Tryz.underlying9 key (.bool true)
        have HM3 := Lib.hid hm3
        have HBK3 := Lib.hid (HBK2.out.kp hk3 (by omega))
        have HK3 : Hid (Kp (fun b => b = w.heap.size) w w3) := Lib.hid ((HK2.out.mono (fun _ x => x.elim)).trans hk3 (fun _ x _ => x))
        obtain ⟨q0, q1, q2, q3, q4⟩ := rec5 HBK3.out
        have hsz3 := hk3.size
        clear hcall hb2 k2 hm3 z0 z1 z2 z3 z4 y0
        have hnews : ∀ j u, [Value.int .i64 1, .int .u32 1, .string key, .slice A blob.length c, .int .i64 0][j]? = some u → (w3.alloc (.cells #[.int .i64 1, .int .u32 1, .string key, .slice A blob.length c, .int .i64 0] 183)).cell? ((⟨w3.heap.size, 0, none⟩ : Addr).add j) = some u := by
          intro j u hj
          rw [show (⟨w3.heap.size, 0, none⟩ : Addr).add j = ⟨w3.heap.size, j, none⟩ by unfold Addr.add; split <;> simp_all]
          have := (Blk.new w3 183 #[.int .i64 1, .int .u32 1, .string key, .slice A blob.length c, .int .i64 0]).cell j
          rw [this, ← hj]
          simp
        go_wp2_with (at_builtin; refine wpList_append_first _ rfl (.tmp 46) (.tmp 48) _ rfl 183 i0 _ 5 64 Tryz.underlying228 hi hz0 hz1 hz2 rfl (by omega) rfl ⟨w3.heap.size, 0, none⟩ 1 [Value.int .i64 1, .int .u32 1, .string key, .slice A blob.length c, .int .i64 0] rfl rfl hnews (by simp [Value.oneCell']) (by omega) ?_)
        intro gf cap w4 hgf hcap hgfl HF hk4
        have HSL4 : Hid (Sl (fun b => w.heap.size ≤ b) w4 (.slice A blob.length c) (bytesV blob)) := Lib.hid ((((HSL2.out.kp hk3 (fun b hb _ => by omega)).kp ((Kp.refl (fun _ => False) w3).alloc _) (fun _ _ _ x => x)).kp hk4 (fun _ _ _ x => x)).mono (fun b hb _ => Nat.le_of_lt hb))
        have HR4 : Hid (OneRec (fun b => w.heap.size ≤ b) w4 (.slice (some ⟨gf, 0, none⟩) 1 cap) 1 1 key (.slice A blob.length c)) := Lib.hid ⟨gf, cap, rfl, hcap, by omega, hgfl, HF 0 _ rfl, HF 1 _ rfl, HF 2 _ rfl, HF 3 _ rfl, HF 4 _ rfl⟩
        have HB4 : Hid (Below w.heap.size w w4) := Lib.hid (Kp.below ⟨(hk4.os.trans rfl).trans HK3.out.os, (hk4.tape.trans rfl).trans HK3.out.tape, (hk4.output.trans rfl).trans HK3.out.output, ((HK3.out.alloc _).trans hk4 (fun _ x _ => x.elim)).size, fun b hb _ => ((HK3.out.alloc _).trans hk4 (fun _ x _ => x.elim)).block b hb (by omega)⟩)
        have HM4 : Hid (∃ vv, MapIs w4 w.heap.size [(key, vv)]) := Lib.hid ⟨.bool true, (HM3.out.alloc _).kp hk4 (fun x => x)⟩
        clear HF hk4 hk3 hnews hmu q0 q1 q2 q3 q4 y1
        go_wp2
        go_roundw
        case rel => exact .inr ⟨rfl, gf, cap, _, rfl, HR4.out, HSL4, HB4, HM4⟩
        case measure => simp [intOf]
    · obtain ⟨vv, hm⟩ := HM.out
      have hln := map_len hm Tryz.underlying247 3
      have HREC := Lib.hid hrec
      simp at hln
      clear hrec hm
      go_wp2
      go_ret2
      exact ⟨_, bv', rfl, HREC.out, HSL.out, HB.out⟩
end Go.Proofs.YtnaphhfmccbamaaGreatDoor

namespace Go.Proofs.YtnaphhfmccbamaaGreatDoor
open Go.RowKit

theorem OneRec.kp {ok S : Nat → Prop} {w w' : World} {lv bv : Value} {kind txn : Nat} {key : ByteArray} (h : OneRec ok w lv kind txn key bv) (k : Kp S w w') (hs : ∀ b, ok b → b < w.heap.size → ¬ S b) : OneRec ok w' lv kind txn key bv := by
  obtain ⟨gr, c, e, h1, h2, h3, x0, x1, x2, x3, x4⟩ := h.out
  have q : ∀ i, w'.cell? ⟨gr, i, none⟩ = w.cell? ⟨gr, i, none⟩ := fun i => k.cell (p := ⟨gr, i, none⟩) h3 (hs gr h2 h3)
  exact ⟨gr, c, e, h1, h2, Nat.lt_of_lt_of_le h3 k.size, (q 0).trans x0, (q 1).trans x1, (q 2).trans x2, (q 3).trans x3, (q 4).trans x4⟩

set_option maxRecDepth 100000 in
set_option maxHeartbeats 4000000 in
theorem Commit_put (w : World) (s p pb pw g m : Nat) (B B1 : BS) (h : StoreAt w s p pb pw g m B) (hdn : B.down = false) (h64 : 64 ≤ B.F.size) (hszb : B.F.size ≤ 65536)
    (key : ByteArray) (hk1 : 1 ≤ key.size) (hks : key.size ≤ 64) (blob : List UInt8) (hbl : blob.length ≤ 4096) (lv bv : Value) (ok : Nat → Prop) (hl : OneChange ok w lv false key bv) (hv : Sl ok w bv (bytesV blob))
    (sz : Nat) (hsz : 16 + key.size + blob.length + 16 = sz) (hlong : sz ≤ (B.F.size - 12) / 2)
    (hroom : ∀ W, StoreAt W s p pb pw g m B → Calls Tryz.prog 151 #[.pointer (some ⟨s, 0, none⟩), .int .i64 sz] W fun e w' => e = .returned (.int .i64 0) ∧ StoreAt w' s p pb pw g m B1 ∧ Kp (fun b => b = pb ∨ b = s ∨ b = g) W w')
    (hd : B1.F.down = false) (hfu : B1.F.fuse < 0) (hn : Nat) (hh : B1.head = hn) (hlt : hn < B1.F.sectors) (hsec : B1.F.sectors ≤ 64) (hsz1 : B1.F.size ≤ 65536) (hlen : B1.F.b.length = B1.F.sectors * B1.F.size) (htx : B1.txn < 4294967295)
    (hfit : B1.at_ + sz ≤ B1.F.size) (hff : Ff B1.F.b (hn * B1.F.size + B1.at_) (hn * B1.F.size + B1.F.size)) :
    Calls Tryz.prog 122 #[.pointer (some ⟨s, 0, none⟩), lv] w fun e w' =>
      e = .returned (.int .i64 0) ∧ StoreAt w' s p pb pw g m { ((({ B1 with txn := B1.txn + 1 } : BS).laid hn 1 (B1.txn + 1) 0 key blob).laid hn 3 (B1.txn + 1) 1 ⟨#[]⟩ []) with idx := idxPut B1.idx key (placeV hn B1.at_ ⟨blob.toArray⟩) } ∧ Kp (fun b => b = pb ∨ b = s ∨ b = g ∨ b = m) w w' := by
  have HS := Lib.hid h
  have HL := Lib.hid hl
  have HV := Lib.hid hv
  have HROOM := Lib.hid hroom
  obtain ⟨z1, hz1, t1⟩ : ∃ z1 : Nat, z1 + 12 = B.F.size ∧ IntKind.i64.wrap ((B.F.size : Int) - 12) = (z1 : Int) := ⟨B.F.size - 12, by omega, by rw [IntKind.wrap_i64]; omega⟩
  clear h hl hv hroom
  go_enter Tryz.func122, Tryz.ntmps122
  go_wp2_with fail
  refine (Down_any w s p pb pw g m B HS.out).mono ?_
  rintro e w' ⟨rfl, hw⟩
  obtain rfl : w = w' := hw
  rw [hdn]
  go_wp2_with fail
  refine (records_put w key hk1 hks blob hbl lv bv ok HL.out HV.out).mono ?_
  rintro e w1 ⟨out, bv', rfl, hrec, hsl, hb1⟩
  have HS1 := Lib.hid (HS.out.below hb1)
  have HR1 := Lib.hid hrec
  have HSL1 := Lib.hid hsl
  have HB1 := Lib.hid hb1
  clear hrec hsl hb1
  go_wp2_with fail
  obtain ⟨z2, hz2, t2⟩ : ∃ z2 : Nat, sz ≤ z2 ∧ IntKind.i64.wrap ((z1 : Int) / 2) = (z2 : Int) := ⟨z1 / 2, by omega, by rw [IntKind.wrap_i64]; omega⟩
  have HSZ : Hid (∀ W, OneRec (fun b => w.heap.size ≤ b) W out 1 1 key bv' → Calls Tryz.prog 150 #[out] W fun e w' => e = .returned (.int .i64 sz) ∧ Below W.heap.size W w') := Lib.hid fun W hW => by
    obtain ⟨A, c, rfl, _⟩ := HSL1.out.form
    rw [bytesV_length] at hW
    have := size_one W 1 1 key hks blob.length c hbl A out _ hW
    rw [hsz] at this
    exact this
  have t3 : decide (z2 < sz) = false := decide_eq_false (by omega)
  refine region_fixed_all (by kernel_rfl) (fun j => [out, .int .i64 sz, Value.pointer (some ⟨s, 0, none⟩), .pointer (some ⟨s, 0, none⟩), .pointer (some ⟨s, 1, none⟩), .pointer (some ⟨s, 2, none⟩), .int .i64 B.F.size, .int .i64 z1, .int .i64 z2, .bool false, .bool false].getD j undef) (fun W => StoreAt W s p pb pw g m B ∧ Kp (fun _ => False) w1 W) (by kernel_rfl) ?h0 ?hops ?hend
  case h0 => exact ⟨HS1.out.drew, (Kp.refl _ w1).drew⟩
  case hops =>
    refine ⟨?_, ?_, ?_, ?_, ?_, ?_, ?_, ?_, ?_, ?_, ?_, trivial⟩
    all_goals intro L b W hL hS K hK
    · have q1 := hL.old_ 5 (by kernel_rfl)
      simp at q1
      go_simp
      exact hK _ hS
    · have q1 := hL.dep 0 20 (by kernel_rfl)
      simp at q1
      have hc := HSZ.out W (HR1.out.kp hS.2 (fun _ _ _ x => x))
      go_simp
      refine hc.mono ?_
      rintro e w' ⟨rfl, hb'⟩
      exact hK _ ⟨hS.1.below hb', hS.2.below_trans hb'⟩
    · have q1 := hL.old_ 0 (by kernel_rfl)
      simp at q1
      go_simp
      exact hK _ hS
    · have q1 := hL.dep 2 22 (by kernel_rfl)
      simp at q1
      go_simp
      exact hK _ hS
    · have q1 := hL.dep 3 23 (by kernel_rfl)
      simp at q1
      go_simp
      exact hK _ hS
    · have q1 := hL.dep 4 24 (by kernel_rfl)
      simp at q1
      go_simp
      exact hK _ hS
    · have q1 := hL.dep 5 25 (by kernel_rfl)
      simp at q1
      obtain ⟨cc, hcc, hbb, _, c0, c1, c2, c3, c4, c5, c6, c7, c8, c9, c10⟩ := hS.1.cells
      go_simp
      exact hK _ hS
    · have q1 := hL.dep 6 26 (by kernel_rfl)
      simp at q1
      go_simp
      exact hK _ hS
    · have q1 := hL.dep 7 27 (by kernel_rfl)
      simp at q1
      go_simp
      exact hK _ hS
    · have q1 := hL.dep 1 21 (by kernel_rfl)
      have q2 := hL.dep 8 28 (by kernel_rfl)
      simp at q1 q2
      go_simp
      exact hK _ hS
    · have q1 := hL.dep 9 29 (by kernel_rfl)
      simp at q1
      go_simp
      exact hK _ hS
  case hend =>
    intro W hS
    simp only [putList_cons, putList_nil]
    go_simp
    have HSW := Lib.hid hS.1
    have HKW := Lib.hid (Kp.below_trans (Kp.of_below HB1.out (fun _ => False)) hS.2.below)
    have HRW := Lib.hid (HR1.out.kp hS.2 (fun _ _ _ x => x))
    have HSLW := Lib.hid (HSL1.out.kp hS.2 (fun _ _ _ x => x))
    clear hS
    go_wp2_with fail
    refine (HSZ.out W HRW.out).mono ?_
    rintro e w2 ⟨rfl, hb2⟩
    have k2 := Kp.of_below hb2 (fun _ => False)
    have HS2 := Lib.hid (HSW.out.below hb2)
    have HR2 := Lib.hid (HRW.out.kp k2 (fun _ _ _ x => x))
    have HSL2 := Lib.hid (HSLW.out.kp k2 (fun _ _ _ x => x))
    have HK2 := Lib.hid (HKW.out.below_trans hb2)
    clear hb2 k2
    go_wp2_with fail
    refine (HROOM.out w2 HS2.out).mono ?_
    rintro e w3 ⟨rfl, hst3, hk3⟩
    obtain ⟨l1, l2, l3, l4, l5, l6⟩ := HS.out.lts
    have HS3 := Lib.hid hst3
    have HR3 := Lib.hid (HR2.out.kp hk3 (fun b hb _ => by omega))
    have HSL3 := Lib.hid (HSL2.out.kp hk3 (fun b hb _ => by omega))
    have HK3 : Hid (Kp (fun b => b = pb ∨ b = s ∨ b = g) w w3) := Lib.hid ((HK2.out.mono (fun _ x => x.elim)).trans hk3 (fun _ x _ => x))
    clear hst3 hk3
    go_wp2_with fail
    obtain ⟨A, c, hbv, _⟩ := HSL3.out.form
    have hcall := write_one w3 s p pb pw g m B1 HS3.out hd hfu hn hh hlt hsec hsz1 hlen 1 1 (by omega) htx key hks blob hbl (by omega) hff out bv' (fun b => w.heap.size ≤ b) (fun b hb => by omega) HR3.out HSL3.out
      (fun W' => by rw [hbv, bytesV_length]; exact right_put _ _ _ _ _ (by omega) hk1 hks hbl W') (idxPut B1.idx key (placeV hn B1.at_ ⟨blob.toArray⟩))
      (fun W' B' hW' hidx hsl' => by have := apply_put W' s p pb pw g m B' hW' hn B1.at_ 1 (B1.txn + 1) (by omega) key bv' 0 _ blob hsl'; rw [hidx] at this; exact this)
    refine hcall.mono ?_
    rintro e w4 ⟨rfl, hst4, hk4⟩
    have HS4 := Lib.hid hst4
    have HK4 : Hid (Kp (fun b => b = pb ∨ b = s ∨ b = g ∨ b = m) w w4) := Lib.hid ((HK3.out.mono (fun b x => by rcases x with x | x | x; exact .inl x; exact .inr (.inl x); exact .inr (.inr (.inl x)))).trans hk4 (fun b x _ => by rcases x with x | x | x; exact .inl x; exact .inr (.inl x); exact .inr (.inr (.inr x))))
    clear hcall hst4 hk4
    go_wp2_with fail
    refine (fail_ok w4 s p pb pw g m _ HS4.out).mono ?_
    rintro e w5 ⟨rfl, hst5, hk5⟩
    have HS5 := Lib.hid hst5
    have HK5 := Lib.hid (HK4.out.trans hk5 (fun b x _ => .inr (.inl x)))
    clear hst5 hk5
    go_wp2
    go_ret
    exact ⟨rfl, HS5.out, HK5.out⟩
end Go.Proofs.YtnaphhfmccbamaaGreatDoor

namespace Go.Proofs.YtnaphhfmccbamaaGreatDoor
open Go.RowKit

/-- What the store's Commit tells of one change that puts: its error, and the store behind it. -/
def CommitC (s p pb pw g m : Nat) (B B1 : BS) (key : ByteArray) (blob : List UInt8) (er : Int) : Prop :=
  ∀ (W : World) (lv bv : Value) (ok : Nat → Prop), StoreAt W s p pb pw g m B → OneChange ok W lv false key bv → Sl ok W bv (bytesV blob) →
    Calls Tryz.prog 122 #[.pointer (some ⟨s, 0, none⟩), lv] W fun e w' => e = .returned (.int .i64 er) ∧ StoreAt w' s p pb pw g m B1 ∧ Kp (fun b => b = pb ∨ b = s ∨ b = g ∨ b = m) W w'

set_option maxRecDepth 100000 in
theorem keep_ok (w : World) (s p pb pw g m : Nat) (B B1 : BS) (h : StoreAt w s p pb pw g m B) (suite name : ByteArray) (h1 : suite.size ≤ 16) (h2 : name.size ≤ 16) (r : Rc) (hr : RcOk r) (ok : Nat → Prop) (lv : Value) (hl : EntsR ok w lv r.list) (hlen : (rcB r).length ≤ 4096) (er : Int) (hc : CommitC s p pb pw g m B B1 (keyS suite name) (rcB r) er) :
    Calls Tryz.prog 86 #[.pointer (some ⟨s, 0, none⟩), .string suite, .string name, rcV r lv] w fun e w' => e = .returned (.int .i64 er) ∧ StoreAt w' s p pb pw g m B1 ∧ Kp (fun b => b = pb ∨ b = s ∨ b = g ∨ b = m) w w' := by
  have HST := Lib.hid h
  have HC := Lib.hid hc
  obtain ⟨A, c, rfl, _⟩ := hl.form
  have HBY : Hid (∀ W, Below w.heap.size w W → Calls Tryz.prog 121 #[.agg #[.int .u32 r.next, .int .u32 r.ver, .slice A r.list.length c]] W fun e w' => ∃ v, e = .returned (.tuple #[v, .int .i64 0]) ∧ Sl (fun b => W.heap.size ≤ b) w' v (bytesV (rcB r)) ∧ Below W.heap.size W w') := Lib.hid fun W hW => by
    have := rmsBytes_ok r hr W ok _ (hl.kp (Kp.of_below hW (fun _ => False)) (fun _ _ _ x => x))
    unfold rcV at this
    exact this
  unfold rcV
  obtain ⟨bl, hbl⟩ : ∃ l, rcB r = l := ⟨_, rfl⟩
  rw [hbl] at HBY hlen HC
  clear h hc hl hbl
  go_enter Tryz.func86, Tryz.ntmps86
  go_wp2_with fail
  refine (HBY.out _ ((Below.refl _ w).alloc (Nat.le_refl _) _)).mono ?_
  rintro e w1 ⟨v, rfl, hs1, hb1⟩
  have HK1 := Lib.hid ((Kp.refl (fun _ => False) w).alloc _ |>.below_trans hb1)
  obtain ⟨vA, vc, rfl, _⟩ := hs1.form
  rw [bytesV_length] at hs1 ⊢
  have HS1 := Lib.hid hs1
  have t1 : decide ((4096 : Int) < (bl.length : Int)) = false := decide_eq_false (by omega)
  clear hs1 hb1
  go_wp2_with fail
  refine (Key_any suite name (by omega) (by omega) w1).mono ?_
  rintro e w2 ⟨rfl, hw2⟩
  obtain rfl : w1 = w2 := hw2
  go_wp2_with fail
  obtain ⟨X, hX, HKX, HOC, HSX⟩ : ∃ X, w1.alloc (.cells #[.bool false, .string (keyS suite name), .slice vA bl.length vc] 199) = X ∧ Hid (Kp (fun _ => False) w X) ∧ Hid (OneChange (fun b => w.heap.size ≤ b) X (.slice (some ⟨w1.heap.size, 0, none⟩) 1 1) false (keyS suite name) (.slice vA bl.length vc)) ∧ Hid (Sl (fun b => w.heap.size ≤ b) X (.slice vA bl.length vc) (bytesV bl)) := by
    have kx : Kp (fun _ => False) w1 (w1.alloc (.cells #[.bool false, .string (keyS suite name), .slice vA bl.length vc] 199)) := (Kp.refl _ w1).alloc _
    have bb : Blk (w1.alloc (.cells #[.bool false, .string (keyS suite name), .slice vA bl.length vc] 199)) w1.heap.size 199 #[.bool false, .string (keyS suite name), .slice vA bl.length vc] := Blk.new _ _ _
    exact ⟨_, rfl, Lib.hid (HK1.out.trans kx (fun _ x _ => x)), Lib.hid ⟨_, 1, rfl, Nat.le_refl _, HK1.out.size, bb.lt, bb.cell 0, bb.cell 1, bb.cell 2⟩, Lib.hid ((HS1.out.kp kx (fun _ _ _ x => x)).mono (fun b hb _ => by simp at hb; omega))⟩
  rw [hX]
  clear hX
  refine (HC.out X _ _ _ (HST.out.below HKX.out.below) HOC.out HSX.out).mono ?_
  rintro e w3 ⟨rfl, hst, hk3⟩
  have HST3 := Lib.hid hst
  have HK3 : Hid (Kp (fun b => b = pb ∨ b = s ∨ b = g ∨ b = m) w w3) := Lib.hid ((HKX.out.mono (fun _ x => x.elim)).trans hk3 (fun _ x _ => x))
  clear hst hk3
  go_wp2
  go_ret
  exact ⟨rfl, HST3.out, HK3.out⟩

structure DoPost (w : World) (N : Nat) (r' : Rc) (capS : Nat → Prop) (Qc : World → Prop) (W w' : World) : Prop where
  st : ∃ lv', Blk w' N 39 #[.int .u32 r'.next, .int .u32 r'.ver, lv'] ∧ EntsR (fun b => b ≠ N) w' lv' r'.list
  kp : Kp (fun b => capS b ∨ w.heap.size ≤ b) W w'
  q : Qc w'

set_option maxRecDepth 100000 in
theorem change_ok (w : World) (s p pb pw g m : Nat) (B B1 : BS) (h : StoreAt w s p pb pw g m B) (suite name : ByteArray) (h1 : nameB suite = true) (h2 : nameB name = true) (r : Rc) (hr : RcOk r) (a b : Nat) (hm : idxFind B.idx (keyS suite name) = some (placeV a b ⟨(rcB r).toArray⟩))
    (fn : Nat) (caps : Array Value) (r' : Rc) (hr' : RcOk { r' with ver := r'.ver + 1 }) (capS : Nat → Prop) (Qc : World → Prop) (hcap : ∀ k, capS k → k ≠ s ∧ k ≠ p ∧ k ≠ pb ∧ k ≠ pw ∧ k ≠ g ∧ k ≠ m)
    (henter : ∀ args W, (callFunc fn args).run Tryz.prog W = .ok (.enter fn args) W)
    (hdo : ∀ W N lv, Kp (fun _ => False) w W → w.heap.size ≤ N → Blk W N 39 #[.int .u32 r.next, .int .u32 r.ver, lv] → EntsO (fun b => w.heap.size ≤ b ∧ b ≠ N) w.heap.size W lv r.list → Calls Tryz.prog fn (#[.pointer (some ⟨N, 0, none⟩)] ++ caps) W fun e w' => e = .returned (.int .i64 0) ∧ DoPost w N r' capS Qc W w')
    (hQ : ∀ W W', Kp (fun b => b = pb ∨ b = s ∨ b = g ∨ b = m ∨ w.heap.size ≤ b) W W' → Qc W → Qc W')
    (hlen : (rcB { r' with ver := r'.ver + 1 }).length ≤ 4096) (er : Int) (hc : CommitC s p pb pw g m B B1 (keyS suite name) (rcB { r' with ver := r'.ver + 1 }) er) :
    Calls Tryz.prog 58 #[.pointer (some ⟨s, 0, none⟩), .string suite, .string name, .func (.func fn) #[] caps] w fun e w' => e = .returned (.int .i64 er) ∧ StoreAt w' s p pb pw g m B1 ∧ Qc w' ∧ Kp (fun k => capS k ∨ k = pb ∨ k = s ∨ k = g ∨ k = m) w w' := by
  have HST := Lib.hid h
  have HDO := Lib.hid hdo
  have HCAP := Lib.hid hcap
  have HQ := Lib.hid hQ
  have HLD := Lib.hid (load_ok w s p pb pw g m B h suite name h1 h2 r hr a b hm)
  have z1 := nameB_size h1
  have z2 := nameB_size h2
  have HKE : Hid (∀ W lv, StoreAt W s p pb pw g m B → EntsR (fun _ => True) W lv r'.list → _) := Lib.hid fun W lv hW hl => keep_ok W s p pb pw g m B B1 hW suite name (by omega) (by omega) { r' with ver := r'.ver + 1 } hr' (fun _ => True) lv hl hlen er hc
  have hver := hr'.ver
  clear h hdo hcap hQ h1 h2 hr hm hr' hlen hc
  go_enter Tryz.func58, Tryz.ntmps58
  go_wp2_with fail
  refine HLD.out.mono ?_
  rintro e w1 ⟨lv, rfl, he1, hb1⟩
  unfold rcV
  have HE1 := Lib.hid he1
  have HK1 := Lib.hid (Kp.of_below hb1 (fun _ => False))
  obtain ⟨LA, Lc, rfl, _⟩ := (he1.reads (ok' := fun _ => True) (fun _ _ _ => trivial) (fun _ _ _ => trivial)).form
  have hz1 : w.heap.size ≤ w1.heap.size := hb1.size
  clear he1 hb1
  go_wp2_with fail
  have kx : Kp (fun _ => False) w1 (w1.alloc (.cells #[.int .u32 r.next, .int .u32 r.ver, .slice LA r.list.length Lc] 39)) := (Kp.refl _ w1).alloc _
  have hK1 : Kp (fun _ => False) w (w1.alloc (.cells #[.int .u32 r.next, .int .u32 r.ver, .slice LA r.list.length Lc] 39)) := HK1.out.trans kx (fun _ x _ => x)
  have hd := HDO.out _ w1.heap.size (.slice LA r.list.length Lc) hK1 hz1 (Blk.new _ _ _) (((HE1.out.mono (ok' := fun b => w.heap.size ≤ b ∧ b ≠ w1.heap.size) (Nat.le_refl _) (fun b hb hlt => ⟨hb, by omega⟩)).kp kx (fun _ _ _ x => x) (fun _ _ _ x => x)))
  have HX := Lib.hid hK1
  clear kx hK1
  refine hd.mono ?_
  rintro e w2 ⟨rfl, ⟨⟨lv', hb2, hl2⟩, hk2, hq2⟩⟩
  obtain ⟨l1, l2, l3, l4, l5, l6⟩ := HST.out.lts
  have hcs := HCAP.out
  have HST2 : Hid (StoreAt w2 s p pb pw g m B) := Lib.hid ((HST.out.kp HX.out (fun x => x) (fun x => x) (fun x => x) (fun x => x) (fun x => x) (fun x => x)).kp hk2 (fun h => by rcases h with h | h; exact (hcs _ h).1 rfl; omega) (fun h => by rcases h with h | h; exact (hcs _ h).2.1 rfl; omega) (fun h => by rcases h with h | h; exact (hcs _ h).2.2.1 rfl; omega) (fun h => by rcases h with h | h; exact (hcs _ h).2.2.2.1 rfl; omega) (fun h => by rcases h with h | h; exact (hcs _ h).2.2.2.2.1 rfl; omega) (fun h => by rcases h with h | h; exact (hcs _ h).2.2.2.2.2 rfl; omega))
  obtain ⟨LB, Ld, rfl, _⟩ := hl2.form
  have HB2 := Lib.hid hb2
  have HL2 := Lib.hid hl2
  have HQ2 := Lib.hid hq2
  have HK2 : Hid (Kp (fun k => capS k ∨ w.heap.size ≤ k) w w2) := Lib.hid ((HX.out.mono (fun _ x => x.elim)).trans hk2 (fun _ x _ => x))
  obtain ⟨c0, c1, c2⟩ := recs3 hb2
  have f1 := hb2.frozen 1
  have hlN := hb2.lt
  have t1 : decide ((r'.ver : Int) < 4294967295) = true := decide_eq_true (by have : r'.ver + 1 < 4294967296 := hver; omega)
  have t2 : IntKind.u32.wrap ((r'.ver : Int) + 1) = (r'.ver : Int) + 1 := by rw [IntKind.wrap_u32]; have : r'.ver + 1 < 4294967296 := hver; omega
  clear hd hb2 hl2 hq2 hk2 hcs
  obtain ⟨Y, hY, HKY, HBY, HLY⟩ : ∃ Y, w2.setCell ⟨w1.heap.size, 1, none⟩ (.int .u32 ((r'.ver : Int) + 1)) = Y ∧ Hid (Kp (fun k => k = w1.heap.size) w2 Y) ∧ Hid (Blk Y w1.heap.size 39 #[.int .u32 r'.next, .int .u32 ((r'.ver : Int) + 1), .slice LB r'.list.length Ld]) ∧ Hid (EntsR (fun _ => True) Y (.slice LB r'.list.length Ld) r'.list) := by
    have k : Kp (fun k => k = w1.heap.size) w2 (w2.setCell ⟨w1.heap.size, 1, none⟩ (.int .u32 ((r'.ver : Int) + 1))) := Kp.set_ (S := fun k => k = w1.heap.size) (Kp.refl _ _) (.inl rfl) _
    exact ⟨_, rfl, Lib.hid k, Lib.hid (HB2.out.set_ 1 _), Lib.hid ((HL2.out.kp k (fun b hb _ => hb)).mono (fun _ _ _ => trivial))⟩
  obtain ⟨d0, d1, d2⟩ := recs3 HBY.out
  have HSY : Hid (StoreAt Y s p pb pw g m B) := Lib.hid (HST2.out.kp HKY.out (by omega) (by omega) (by omega) (by omega) (by omega) (by omega))
  have hk := HKE.out Y _ HSY.out HLY.out
  unfold rcV at hk
  have ev : ((r'.ver + 1 : Nat) : Int) = (r'.ver : Int) + 1 := by omega
  simp only [ev] at hk
  have HKK := Lib.hid hk
  clear hk ev
  go_wp2_with fail
  refine HKK.out.mono ?_
  rintro e w3 ⟨rfl, hst3, hk3⟩
  have HS3 := Lib.hid hst3
  have HQ3 : Hid (Qc w3) := Lib.hid (HQ.out w2 w3 ((HKY.out.mono (S' := fun b => b = pb ∨ b = s ∨ b = g ∨ b = m ∨ w.heap.size ≤ b) (fun b hb => by subst hb; exact .inr (.inr (.inr (.inr hz1))))).trans hk3 (fun b hb _ => by rcases hb with hb | hb | hb | hb; exact .inl hb; exact .inr (.inl hb); exact .inr (.inr (.inl hb)); exact .inr (.inr (.inr (.inl hb))))) HQ2.out)
  have HK3 : Hid (Kp (fun k => capS k ∨ k = pb ∨ k = s ∨ k = g ∨ k = m) w w3) := Lib.hid (by
    have k1 : Kp (fun k => capS k ∨ k = pb ∨ k = s ∨ k = g ∨ k = m) w w2 := ⟨HK2.out.os, HK2.out.tape, HK2.out.output, HK2.out.size, fun k hk hn => HK2.out.block k hk (fun h => by rcases h with h | h; exact hn (.inl h); omega)⟩
    exact (k1.trans HKY.out (fun b hb hlt => by omega)).trans hk3 (fun b hb _ => .inr hb))
  clear hst3 hk3
  go_wp2
  go_ret
  exact ⟨rfl, HS3.out, HQ3.out, HK3.out⟩
end Go.Proofs.YtnaphhfmccbamaaGreatDoor

namespace Go.Proofs.YtnaphhfmccbamaaGreatDoor
open Go.RowKit

def blankS : Sec := ⟨0, 0, 0⟩
/-- us are the sectors in use, n are still blank; all bytes from the head's place on, and of the blank sectors, are 255. -/
structure BI (B : BS) (us : List Sec) (n : Nat) : Prop where
  down : B.down = false
  fdown : B.F.down = false
  fuse : B.F.fuse < 0
  secs : B.secs = us ++ List.replicate n blankS
  used : ∀ s ∈ us, s.state = 2 ∧ s.erases = 0
  sec : us.length + n = B.F.sectors
  sec64 : B.F.sectors ≤ 64
  size : 64 ≤ B.F.size ∧ B.F.size ≤ 65536
  worn : B.F.worn = List.replicate B.F.sectors 0
  lim : 1 ≤ B.F.limit
  len : B.F.b.length = B.F.sectors * B.F.size
  ff : Ff B.F.b (us.length * B.F.size) (B.F.sectors * B.F.size)
  head : (us = [] ∧ B.head = -1) ∨ (∃ k : Nat, us.length = k + 1 ∧ B.head = k ∧ 12 ≤ B.at_ ∧ B.at_ ≤ B.F.size ∧ Ff B.F.b (k * B.F.size + B.at_) (k * B.F.size + B.F.size))
  seq : B.seq = us.length
  txn : B.txn ≤ B.at_

theorem leastK_blank (lim : Nat) (us : List Sec) (n : Nat) (hus : ∀ s ∈ us, s.state = 2 ∧ s.erases = 0) (hn : 0 < n) : ∀ k, k ≤ us.length + n → leastK lim (us ++ List.replicate n blankS) k = if us.length < k then (us.length, true) else (0, false)
  | 0, _ => by simp [leastK]
  | k + 1, hk => by
    have ih := leastK_blank lim us n hus hn k (by omega)
    simp only [leastK, ih]
    by_cases h1 : k < us.length
    · have hg : (us ++ List.replicate n blankS).getD k ⟨0, 0, 0⟩ = us[k] := by
        rw [List.getD_eq_getElem?_getD, List.getElem?_append_left h1, List.getElem?_eq_getElem h1]; rfl
      have hm : mayB lim us[k] = false := by
        have := (hus us[k] (List.getElem_mem h1)).1
        simp [mayB, this]
      have a1 : ¬ us.length < k := by omega
      have a2 : ¬ us.length < k + 1 := by omega
      rw [hg, hm]
      simp only [Bool.false_and, Bool.false_eq_true, if_false, if_neg a1, if_neg a2]
    · have hg : (us ++ List.replicate n blankS).getD k ⟨0, 0, 0⟩ = blankS := by
        rw [List.getD_eq_getElem?_getD, List.getElem?_append_right (by omega), List.getElem?_replicate, if_pos (by omega)]; rfl
      have hm : mayB lim blankS = true := rfl
      have hg2 : (us ++ List.replicate n blankS).getD us.length ⟨0, 0, 0⟩ = blankS := by
        rw [List.getD_eq_getElem?_getD, List.getElem?_append_right (by omega), List.getElem?_replicate, if_pos (by omega)]; rfl
      have a2 : us.length < k + 1 := by omega
      rw [hg, hm]
      by_cases a1 : us.length < k
      · simp only [if_pos a1, if_pos a2, hg2]
        simp
      · obtain rfl : k = us.length := by omega
        simp only [if_neg a1, if_pos a2]
        simp
theorem filter_blank (lim : Nat) (us : List Sec) (n : Nat) (hus : ∀ s ∈ us, s.state = 2 ∧ s.erases = 0) : ((us ++ List.replicate n blankS).filter (mayB lim)).length = n := by
  rw [List.filter_append]
  have h1 : us.filter (mayB lim) = [] := by
    rw [List.filter_eq_nil_iff]
    intro s hs
    have := (hus s hs).1
    simp [mayB, this]
  have h2 : (List.replicate n blankS).filter (mayB lim) = List.replicate n blankS := by
    rw [List.filter_eq_self]
    intro s hs
    rw [List.eq_of_mem_replicate hs]
    rfl
  rw [h1, h2]
  simp

/-- What a put of sz bytes in all leaves. -/
structure PutPost (B : BS) (us : List Sec) (n : Nat) (key : ByteArray) (blob : List UInt8) (sz : Nat) (B1 : BS) : Prop where
  out : ∃ us' n' a b, BI B1 us' n' ∧ B1.idx = idxPut B.idx key (placeV a b ⟨blob.toArray⟩) ∧ B1.F.size = B.F.size ∧ B1.F.sectors = B.F.sectors ∧ ((us' = us ∧ n' = n ∧ us ≠ [] ∧ B1.at_ = B.at_ + sz) ∨ (us'.length = us.length + 1 ∧ n' + 1 = n ∧ B1.at_ = 12 + sz))

theorem Ff.of_eq {L : List UInt8} {a b a' b' : Nat} (h : Ff L a b) (h1 : a = a') (h2 : b = b') : Ff L a' b' := by subst h1 h2; exact h

def BS.afterPut (B : BS) (k : Nat) (key : ByteArray) (blob : List UInt8) : BS :=
  { ((({ B with txn := B.txn + 1 } : BS).laid k 1 (B.txn + 1) 0 key blob).laid k 3 (B.txn + 1) 1 ⟨#[]⟩ []) with idx := idxPut B.idx key (placeV k B.at_ ⟨blob.toArray⟩) }
theorem afterPut_at (B : BS) (k : Nat) (key : ByteArray) (blob : List UInt8) (sz : Nat) (hsz : 16 + key.size + blob.length + 16 = sz) : (B.afterPut k key blob).at_ = B.at_ + sz := by
  subst hsz
  show B.at_ + (16 + key.size + blob.length) + (16 + 0 + 0) = _
  omega
theorem putPost_mk {B : BS} {us : List Sec} {n : Nat} (hB : BI B us n) (k : Nat) (hk : us.length = k + 1) (hh : B.head = k) (h12 : 12 ≤ B.at_) (hff : Ff B.F.b (k * B.F.size + B.at_) (k * B.F.size + B.F.size)) (key : ByteArray) (hks : key.size ≤ 64) (blob : List UInt8) (hbl : blob.length ≤ 4096) (sz : Nat) (hsz : 16 + key.size + blob.length + 16 = sz) (hfit : B.at_ + sz ≤ B.F.size) :
    BI (B.afterPut k key blob) us n := by
  unfold BS.afterPut
  have hmul : k * B.F.size + B.F.size ≤ B.F.b.length := by
    rw [hB.len]
    calc k * B.F.size + B.F.size = (k + 1) * B.F.size := by rw [Nat.add_mul, Nat.one_mul]
      _ ≤ B.F.sectors * B.F.size := Nat.mul_le_mul_right _ (by have := hB.sec; omega)
  have hk1 : us.length * B.F.size = k * B.F.size + B.F.size := by rw [hk, Nat.add_mul, Nat.one_mul]
  obtain ⟨P1, hP1⟩ : ∃ P, k * B.F.size + B.at_ = P := ⟨_, rfl⟩
  obtain ⟨D1, hD1⟩ : ∃ D, recL 1 (B.txn + 1) 0 key.data.toList blob = D := ⟨_, rfl⟩
  have hD1l : D1.length = 15 + key.size + blob.length := by rw [← hD1, recL_length]; simp
  obtain ⟨P2, hP2⟩ : ∃ P, k * B.F.size + (B.at_ + (16 + key.size + blob.length)) = P := ⟨_, rfl⟩
  obtain ⟨D2, hD2⟩ : ∃ D, recL 3 (B.txn + 1) 1 (⟨#[]⟩ : ByteArray).data.toList [] = D := ⟨_, rfl⟩
  have hD2l : D2.length = 15 := by rw [← hD2, recL_length]; rfl
  have hB2 : ({ ((({ B with txn := B.txn + 1 } : BS).laid k 1 (B.txn + 1) 0 key blob).laid k 3 (B.txn + 1) 1 ⟨#[]⟩ []) with idx := idxPut B.idx key (placeV k B.at_ ⟨blob.toArray⟩) } : BS) = { B with F := (B.F.laid P1 D1).laid P2 D2, idx := idxPut B.idx key (placeV k B.at_ ⟨blob.toArray⟩), txn := B.txn + 1, at_ := B.at_ + sz } := by
    subst hP1 hD1 hP2 hD2 hsz
    rfl
  rw [hB2]
  have l1 : (B.F.laid P1 D1).b.length = B.F.b.length := laid_length _ _ _ (by omega)
  have l2 : ((B.F.laid P1 D1).laid P2 D2).b.length = B.F.b.length := by rw [laid_length _ _ _ (by rw [l1]; omega), l1]
  have hf : ∀ a b, Ff B.F.b a b → (b ≤ P1 ∨ P2 + 16 ≤ a) → Ff ((B.F.laid P1 D1).laid P2 D2).b a b := fun a b h1 h2 =>
    (h1.laid P1 D1 (by omega) (by omega)).laid P2 D2 (by rw [l1]; omega) (by omega)
  refine ⟨hB.down, hB.fdown, hB.fuse, hB.secs, hB.used, hB.sec, hB.sec64, hB.size, hB.worn, hB.lim, l2.trans hB.len, ?_, .inr ⟨k, hk, hh, by show 12 ≤ B.at_ + sz; omega, hfit, ?_⟩, hB.seq, by show B.txn + 1 ≤ B.at_ + sz; have := hB.txn; omega⟩
  · show Ff ((B.F.laid P1 D1).laid P2 D2).b (us.length * B.F.size) (B.F.sectors * B.F.size)
    exact hf _ _ hB.ff (.inr (by omega))
  · show Ff ((B.F.laid P1 D1).laid P2 D2).b (k * B.F.size + (B.at_ + sz)) (k * B.F.size + B.F.size)
    exact hf _ _ (hff.mono (by omega) (Nat.le_refl _)) (.inr (by omega))

theorem opened_bi {B : BS} {us : List Sec} {n : Nat} (hB : BI B us (n + 1)) : BI { B with F := B.F.opened us.length (B.seq + 1), secs := B.secs.set us.length ⟨2, B.seq + 1, 0⟩, head := us.length, at_ := 12, txn := 0, seq := B.seq + 1 } (us ++ [⟨2, B.seq + 1, 0⟩]) n ∧
    Ff (B.F.opened us.length (B.seq + 1)).b (us.length * B.F.size + 12) (us.length * B.F.size + B.F.size) := by
  have hsec := hB.sec
  have h64 := hB.size
  have hmul : us.length * B.F.size + B.F.size ≤ B.F.b.length := by
    rw [hB.len]
    calc us.length * B.F.size + B.F.size = (us.length + 1) * B.F.size := by rw [Nat.add_mul, Nat.one_mul]
      _ ≤ B.F.sectors * B.F.size := Nat.mul_le_mul_right _ (by omega)
  obtain ⟨P, hP⟩ : ∃ P, us.length * B.F.size = P := ⟨_, rfl⟩
  have hle : P + B.F.size ≤ B.F.sectors * B.F.size := by rw [← hB.len]; omega
  have l1 : (B.F.put P (headL (B.seq + 1))).b.length = B.F.b.length := put_length _ _ _ (by simp; omega)
  have l2 : ((B.F.put P (headL (B.seq + 1))).put (P + 8) [0]).b.length = B.F.b.length := by rw [put_length _ _ _ (by rw [l1]; simp; omega), l1]
  have hf : ∀ a b, Ff B.F.b a b → P + 12 ≤ a → Ff ((B.F.put P (headL (B.seq + 1))).put (P + 8) [0]).b a b := fun a b h1 h2 =>
    Ff.put (F := B.F.put P (headL (B.seq + 1))) (h1.put P _ (by simp; omega) (by simp; omega)) (P + 8) [0] (by rw [l1]; simp; omega) (by simp; omega)
  have hop : B.F.opened us.length (B.seq + 1) = (B.F.put P (headL (B.seq + 1))).put (P + 8) [0] := by unfold FL.opened; rw [hP]
  have hff := hB.ff
  rw [hP] at hff
  rw [hop, hP]
  have hfh : Ff ((B.F.put P (headL (B.seq + 1))).put (P + 8) [0]).b (P + 12) (P + B.F.size) := hf _ _ (hff.mono (by omega) (by omega)) (by omega)
  refine ⟨⟨hB.down, hB.fdown, hB.fuse, ?_, ?_, by rw [List.length_append, List.length_singleton]; show us.length + 1 + n = B.F.sectors; omega, hB.sec64, hB.size, hB.worn, hB.lim, l2.trans hB.len, ?_, .inr ⟨us.length, by simp, rfl, Nat.le_refl _, by show 12 ≤ B.F.size; omega, ?_⟩, by show B.seq + 1 = _; rw [hB.seq]; simp, Nat.zero_le _⟩, hfh⟩
  · show B.secs.set us.length ⟨2, B.seq + 1, 0⟩ = _
    rw [hB.secs, List.set_append_right _ _ (Nat.le_refl _), Nat.sub_self, List.replicate_succ, List.set_cons_zero, List.append_assoc]
    rfl
  · intro s hs
    rcases List.mem_append.1 hs with h | h
    · exact hB.used s h
    · simp at h; subst h; exact ⟨rfl, rfl⟩
  · show Ff ((B.F.put P (headL (B.seq + 1))).put (P + 8) [0]).b ((us ++ ([⟨2, B.seq + 1, 0⟩] : List Sec)).length * B.F.size) (B.F.sectors * B.F.size)
    rw [List.length_append, List.length_singleton, Nat.add_mul, Nat.one_mul, hP]
    exact hf _ _ (hff.mono (by omega) (Nat.le_refl _)) (by omega)
  · show Ff ((B.F.put P (headL (B.seq + 1))).put (P + 8) [0]).b (us.length * B.F.size + 12) (us.length * B.F.size + B.F.size)
    rw [hP]
    exact hfh

set_option maxHeartbeats 1000000 in
/-- A put, where the head has room or two sectors are blank. -/
theorem put_any (s p pb pw g m : Nat) (B : BS) (us : List Sec) (n : Nat) (hB : BI B us n) (key : ByteArray) (hk1 : 1 ≤ key.size) (hks : key.size ≤ 64) (blob : List UInt8) (hbl : blob.length ≤ 4096) (sz : Nat) (hsz : 16 + key.size + blob.length + 16 = sz) (hlong : sz ≤ (B.F.size - 12) / 2)
    (hroom : (us ≠ [] ∧ B.at_ + sz ≤ B.F.size) ∨ 2 ≤ n) : ∃ B1, CommitC s p pb pw g m B B1 key blob 0 ∧ PutPost B us n key blob sz B1 := by
  have h64 := hB.size
  have hsec := hB.sec
  have hs64 := hB.sec64
  have hsl : B.secs.length = B.F.sectors := by rw [hB.secs]; simp; omega
  have hwl : B.F.worn.length = B.F.sectors := by rw [hB.worn]; simp
  by_cases hfits : us ≠ [] ∧ B.at_ + sz ≤ B.F.size
  · obtain ⟨hne, hfit⟩ := hfits
    rcases hB.head with ⟨h, _⟩ | ⟨k, hk, hh, h12, hat, hff⟩
    · exact absurd h hne
    · refine ⟨B.afterPut k key blob, ?_, ⟨us, n, k, B.at_, putPost_mk hB k hk hh h12 hff key hks blob hbl sz hsz hfit, rfl, rfl, rfl, .inl ⟨rfl, rfl, hne, afterPut_at B k key blob sz hsz⟩⟩⟩
      intro W lv bv ok hW hl hv
      exact Commit_put W s p pb pw g m B B hW hB.down h64.1 h64.2 key hk1 hks blob hbl lv bv ok hl hv sz hsz hlong
        (fun W' hW' => (room_fits W' s p pb pw g m B hW' k hh (by omega) (by omega) (by omega) (by omega) sz (by omega) hfit).mono (fun e w' ⟨he, hb⟩ => ⟨he, hW'.below hb, Kp.of_below hb _⟩))
        hB.fdown hB.fuse k hh (by omega) hs64 h64.2 hB.len (by have := hB.txn; omega) hfit hff
  · have hn2 : 2 ≤ n := hroom.resolve_left hfits
    obtain ⟨n, rfl⟩ : ∃ m, n = m + 1 := ⟨n - 1, by omega⟩
    obtain ⟨hB1, hff1⟩ := opened_bi hB
    have hlt : us.length < B.F.worn.length := by rw [hwl]; omega
    have hw0 : B.F.worn[us.length] = 0 := by
      have : B.F.worn[us.length]? = some 0 := by rw [hB.worn, List.getElem?_replicate, if_pos (by omega)]
      rw [List.getElem?_eq_getElem hlt] at this
      injection this
    have hfit12 : 12 + sz ≤ B.F.size := by omega
    obtain ⟨BO, hBO⟩ : ∃ BO : BS, { B with F := B.F.opened us.length (B.seq + 1), secs := B.secs.set us.length ⟨2, B.seq + 1, 0⟩, head := us.length, at_ := 12, txn := 0, seq := B.seq + 1 } = BO := ⟨_, rfl⟩
    rw [hBO] at hB1
    have e1 : BO.head = us.length := by rw [← hBO]
    have e2 : BO.at_ = 12 := by rw [← hBO]
    have e3 : BO.F = B.F.opened us.length (B.seq + 1) := by rw [← hBO]
    have e4 : BO.F.size = B.F.size := by rw [e3]; rfl
    have e5 : BO.F.sectors = B.F.sectors := by rw [e3]; rfl
    have e6 : BO.idx = B.idx := by rw [← hBO]
    have e7 : BO.txn = 0 := by rw [← hBO]
    have hff2 : Ff BO.F.b (us.length * BO.F.size + BO.at_) (us.length * BO.F.size + BO.F.size) := by rw [e2, e4, e3]; exact hff1
    have hfit2 : BO.at_ + sz ≤ BO.F.size := by rw [e2, e4]; exact hfit12
    refine ⟨BO.afterPut us.length key blob, ?_, ⟨us ++ [⟨2, B.seq + 1, 0⟩], n, us.length, BO.at_, putPost_mk hB1 us.length (by simp) e1 (by omega) hff2 key hks blob hbl sz hsz hfit2, (by show idxPut BO.idx _ _ = _; rw [e6]), e4, e5, .inr ⟨by simp, rfl, by rw [afterPut_at BO us.length key blob sz hsz, e2]⟩⟩⟩
    intro W lv bv ok hW hl hv
    have hno : ∀ W, StoreAt W s p pb pw g m B → Calls Tryz.prog 170 #[.pointer (some ⟨s, 0, none⟩), .int .i64 sz] W fun e w' => e = .returned (.bool false) ∧ Below W.heap.size W w' := fun W' hW' => by
      rcases hB.head with ⟨_, hh⟩ | ⟨k, hk, hh, h12, hat, hff⟩
      · exact fits_none W' s p pb pw g m B hW' hh sz
      · have := fits_some W' s p pb pw g m B hW' k hh (by omega) (by omega) sz (by omega)
        rw [decide_eq_false (fun h => hfits ⟨fun h0 => by rw [h0] at hk; simp at hk, h⟩)] at this
        exact this
    have hrm : ∀ W, StoreAt W s p pb pw g m B → Calls Tryz.prog 151 #[.pointer (some ⟨s, 0, none⟩), .int .i64 sz] W fun e w' => e = .returned (.int .i64 0) ∧ StoreAt w' s p pb pw g m BO ∧ Kp (fun b => b = pb ∨ b = s ∨ b = g) W w' := fun W' hW' => by
      have := room_opens W' s p pb pw g m B hW' hB.fdown hB.fuse hwl (by omega) h64.1 h64.2 hB.len (by omega) us.length (by rw [hB.secs, leastK_blank _ _ _ hB.used (by omega) _ (by simp), if_pos (by simp)]) hlt (by omega) (by have := hB.seq; omega)
          (hB.ff.mono (Nat.le_refl _) (by calc us.length * B.F.size + B.F.size = (us.length + 1) * B.F.size := by rw [Nat.add_mul, Nat.one_mul]
              _ ≤ B.F.sectors * B.F.size := Nat.mul_le_mul_right _ (by omega))) sz (by omega) (by rw [hB.secs, filter_blank _ _ _ hB.used]; omega) hfit12 hno
      rw [hw0, hBO] at this
      exact this
    clear hBO
    exact Commit_put W s p pb pw g m B BO hW hB.down h64.1 h64.2 key hk1 hks blob hbl lv bv ok hl hv sz hsz hlong hrm
      hB1.fdown hB1.fuse us.length e1 (by rw [e5]; omega) (by rw [e5]; omega) (by rw [e4]; omega) hB1.len (by rw [e7]; omega) hfit2 hff2
end Go.Proofs.YtnaphhfmccbamaaGreatDoor

namespace Go.Proofs.YtnaphhfmccbamaaGreatDoor
open Go.RowKit

set_option maxRecDepth 100000 in
theorem replay_none (w : World) (s p pb pw g m : Nat) (B : BS) (h : StoreAt w s p pb pw g m B) (c0 : Nat) :
    Calls Tryz.prog 48 #[.pointer (some ⟨s, 0, none⟩), .slice none 0 c0] w fun e w' =>
      ∃ m', w.heap.size ≤ m' ∧ e = .returned (.int .i64 0) ∧ StoreAt w' s p pb pw g m' { B with idx := [], head := -1, seq := 0 } ∧ Kp (fun b => b = s) w w' := by
  obtain ⟨c, hc, hb, hs, c0, c1, c2, c3, c4, c5, c6, c7, c8, c9, c10⟩ := h.cells
  have hmk := run_makeMap (P := Tryz.prog) 95 w
  have f5 := hb.frozen 5
  have f6 := hb.frozen 6
  have f9 := hb.frozen 9
  obtain ⟨W, hW, HS, HK⟩ : ∃ W, ((((w.alloc (.map #[] 0)).setCell ⟨s, 5, none⟩ (.map (some w.heap.size))).setCell ⟨s, 6, none⟩ (.int .i64 (-1))).setCell ⟨s, 9, none⟩ (.int .u32 0)) = W ∧ Hid (StoreAt W s p pb pw g w.heap.size { B with idx := [], head := -1, seq := 0 }) ∧ Hid (Kp (fun b => b = s) w W) := by
    have a1 : StoreAt ((w.alloc (.map #[] 0)).setCell ⟨s, 5, none⟩ (.map (some w.heap.size))) s p pb pw g w.heap.size { B with idx := [] } := by
      have h0 := h.alloc (.map #[] 0)
      obtain ⟨x1, x2, x3, x4, x5, _⟩ := h0.apart
      have k : Kp (fun k => k = s) (w.alloc (.map #[] 0)) ((w.alloc (.map #[] 0)).setCell ⟨s, 5, none⟩ (.map (some w.heap.size))) := Kp.set_ (S := fun k => k = s) (Kp.refl _ _) (.inl rfl) _
      obtain ⟨cs, d, e⟩ := h0.secs
      exact ⟨h0.fl.kp k (Ne.symm x1) (Ne.symm x2) (Ne.symm x3), ⟨c, hc, (hb.alloc _).set_ 5 _⟩, ⟨cs, d.kp k (Ne.symm x4), e⟩, (MapIs.made w).kp k (by omega)⟩
    obtain ⟨a2, k2⟩ := store_set a1 6 (.int .i64 (-1)) { B with idx := [], head := -1 } rfl rfl rfl (fun _ => rfl)
    obtain ⟨a3, k3⟩ := store_set a2 9 (.int .u32 0) { B with idx := [], head := -1, seq := 0 } rfl rfl rfl (fun _ => rfl)
    exact ⟨_, rfl, Lib.hid a3, Lib.hid (((Kp.set_ (S := fun k => k = s) ((Kp.refl _ w).alloc _) (.inl rfl) _).trans k2 (fun _ x _ => x)).trans k3 (fun _ x _ => x))⟩
  have hW' : (((w.setCell ⟨s, 5, none⟩ (.map (some w.heap.size))).setCell ⟨s, 6, none⟩ (.int .i64 (-1))).setCell ⟨s, 9, none⟩ (.int .u32 0)).alloc (.map #[] 0) = W := by rw [← hW, World.setCell_alloc_past _ _ _ _ hs, World.setCell_alloc_past _ _ _ _ (by simpa using hs), World.setCell_alloc_past _ _ _ _ (by simpa using hs)]
  clear h hb hW
  go_enter Tryz.func48, Tryz.ntmps48
  go_wp2_with fail
  go_loopw [20] (fun i wr => i = .int .i64 0 ∧ wr = W) (fun i _ => 0)
  case atStart => exact ⟨rfl, rfl⟩
  case round =>
    obtain ⟨rfl, rfl⟩ := hrel
    go_wp2
    go_ret
    exact ⟨_, Nat.le_refl _, rfl, HS.out, HK.out⟩
end Go.Proofs.YtnaphhfmccbamaaGreatDoor

namespace Go.Proofs.YtnaphhfmccbamaaGreatDoor
open Go.RowKit

theorem insertion_none (w : World) (fn : Value) (c : Nat) : Calls Tryz.prog 107 #[.slice none 0 c, .int .i64 0, .int .i64 0, fn] w fun e w' => e = .returned (.tuple #[]) ∧ w' = w := by
  go_enter Tryz.func107, Tryz.ntmps107
  go_wp2_with fail
  go_loopw [8] (fun i wr => i = .int .i64 1 ∧ wr = w) (fun _ _ => 0)
  case atStart => exact ⟨rfl, rfl⟩
  case round =>
    obtain ⟨rfl, rfl⟩ := hrel
    go_wp2
    exact bodyPost_end (results_none rfl _ _ _) rfl ⟨rfl, rfl⟩
theorem stable_none (w : World) (fn : Value) (c : Nat) : Calls Tryz.prog 76 #[.slice none 0 c, .int .i64 0, fn] w fun e w' => e = .returned (.tuple #[]) ∧ w' = w := by
  go_enter Tryz.func76, Tryz.ntmps76
  go_wp2_with fail
  go_loopw [7, 8] (fun a b wr => a = .int .i64 0 ∧ b = .int .i64 20 ∧ wr = w) (fun _ _ _ => 0)
  case atStart => exact ⟨rfl, rfl, rfl⟩
  case round =>
    obtain ⟨rfl, rfl, rfl⟩ := hrel
    go_wp2_with fail
    refine (insertion_none wr fn c).mono ?_
    rintro e w' ⟨rfl, rfl⟩
    go_wp2_with fail
    go_loopw [6] (fun a wq => a = .int .i64 20 ∧ wq = w') (fun _ _ => 0)
    case atStart => exact ⟨rfl, rfl⟩
    case round =>
      obtain ⟨rfl, rfl⟩ := hrel
      go_wp2
      exact bodyPost_end (results_none rfl _ _ _) rfl ⟨rfl, rfl⟩
theorem sortStable_none (w : World) (fn : Value) (c : Nat) : Calls Tryz.prog 45 #[.slice none 0 c, fn] w fun e w' => e = .returned (.tuple #[]) ∧ w' = w := by
  go_enter Tryz.func45, Tryz.ntmps45
  go_wp2_with fail
  refine (stable_none w fn c).mono ?_
  rintro e w' ⟨rfl, rfl⟩
  go_wp2
  exact bodyPost_end (results_none rfl _ _ _) rfl ⟨rfl, rfl⟩
end Go.Proofs.YtnaphhfmccbamaaGreatDoor
