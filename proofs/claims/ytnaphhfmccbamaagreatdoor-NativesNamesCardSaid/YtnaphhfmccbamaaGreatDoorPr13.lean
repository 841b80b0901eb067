/- Contracts of rms.change where the change is refused, and of rms.Set at an entry that isn't there. What open tells of the stores that matter, and contracts of Get and Set (natives) where the record store is there. Contracts of rms.Add and of the function that it hands on. Contracts of the environment's Add and Set (natives). -/
import Derived.Test.YtnaphhfmccbamaaGreatDoorPr12
import Derived.Test.YtnaphhfmccbamaaGreatDoorPr10
namespace Go.Proofs.YtnaphhfmccbamaaGreatDoor
open Go.RowKit

set_option maxRecDepth 100000 in
theorem change_no (w : World) (s p pb pw g m : Nat) (B : BS) (h : StoreAt w s p pb pw g m B) (suite name : ByteArray) (h1 : nameB suite = true) (h2 : nameB name = true) (r : Rc) (hr : RcOk r) (a b : Nat) (hm : idxFind B.idx (keyS suite name) = some (placeV a b ⟨(rcB r).toArray⟩))
    (fn : Nat) (caps : Array Value) (er : Nat) (her : er ≠ 0) (henter : ∀ args W, (callFunc fn args).run Tryz.prog W = .ok (.enter fn args) W)
    (hdo : ∀ W N lv, Kp (fun _ => False) w W → w.heap.size ≤ N → Blk W N 39 #[.int .u32 r.next, .int .u32 r.ver, lv] → EntsO (fun b => w.heap.size ≤ b ∧ b ≠ N) w.heap.size W lv r.list → Calls Tryz.prog fn (#[.pointer (some ⟨N, 0, none⟩)] ++ caps) W fun e w' => e = .returned (.int .i64 er) ∧ Below W.heap.size W w') :
    Calls Tryz.prog 58 #[.pointer (some ⟨s, 0, none⟩), .string suite, .string name, .func (.func fn) #[] caps] w fun e w' => e = .returned (.int .i64 er) ∧ Below w.heap.size w w' := by
  have HDO := Lib.hid hdo
  have HLD := Lib.hid (load_ok w s p pb pw g m B h suite name h1 h2 r hr a b hm)
  have t0 : ((er : Int) != 0) = true := by rw [bne_iff_ne]; omega
  clear h hdo h1 h2 hr hm her
  go_enter Tryz.func58, Tryz.ntmps58
  go_wp2_with fail
  refine HLD.out.mono ?_
  rintro e w1 ⟨lv, rfl, he1, hb1⟩
  unfold rcV
  have HE1 := Lib.hid he1
  have HK1 := Lib.hid (Kp.of_below hb1 (fun _ => False))
  obtain ⟨LA, Lc, rfl, _⟩ := (he1.reads (ok' := fun _ => True) (fun _ _ _ => trivial) (fun _ _ _ => trivial)).form
  have hz1 : w.heap.size ≤ w1.heap.size := hb1.size
  clear he1 hb1
  go_wp2_with fail
  have kx : Kp (fun _ => False) w1 (w1.alloc (.cells #[.int .u32 r.next, .int .u32 r.ver, .slice LA r.list.length Lc] 39)) := (Kp.refl _ w1).alloc _
  have hK1 : Kp (fun _ => False) w (w1.alloc (.cells #[.int .u32 r.next, .int .u32 r.ver, .slice LA r.list.length Lc] 39)) := HK1.out.trans kx (fun _ x _ => x)
  have hd := HDO.out _ w1.heap.size (.slice LA r.list.length Lc) hK1 hz1 (Blk.new _ _ _) (((HE1.out.mono (ok' := fun b => w.heap.size ≤ b ∧ b ≠ w1.heap.size) (Nat.le_refl _) (fun b hb hlt => ⟨hb, by omega⟩)).kp kx (fun _ _ _ x => x) (fun _ _ _ x => x)))
  have HX := Lib.hid hK1
  clear kx hK1
  refine hd.mono ?_
  rintro e w2 ⟨rfl, hb2⟩
  have HB := Lib.hid (HX.out.below_trans hb2).below
  clear hd hb2
  go_wp2_with fail
  go_ret
  exact ⟨rfl, HB.out⟩

theorem low_exists : ∀ {l : List (Nat × List UInt8)} (_ : ∀ i j (hi : i < l.length) (hj : j < l.length), i ≤ j → l[i].1 ≤ l[j].1) (id : Nat), ∃ k, Low l id k
  | [], _, id => ⟨0, Nat.le_refl _, fun i h _ => absurd h (by simp), fun i h _ => absurd h (by simp)⟩
  | y :: l, hs, id => by
    obtain ⟨k, hk, h1, h2⟩ := low_exists (l := l) (fun i j hi hj hij => by have := hs (i + 1) (j + 1) (by simpa using hi) (by simpa using hj) (by omega); simpa using this) id
    by_cases hy : y.1 < id
    · refine ⟨k + 1, by simpa using hk, fun i hi hik => ?_, fun i hi hik => ?_⟩
      · cases i with
        | zero => exact hy
        | succ i => simpa using h1 i (by simpa using hi) (by omega)
      · cases i with
        | zero => omega
        | succ i => simpa using h2 i (by simpa using hi) (by omega)
    · refine ⟨0, Nat.zero_le _, fun i hi hik => by omega, fun i hi _ => ?_⟩
      have := hs 0 i (by simp) hi (by omega)
      simp only [List.getElem_cons_zero] at this
      omega
theorem low_unique {l : List (Nat × List UInt8)} {id k k' : Nat} (h : Low l id k) (h' : Low l id k') : k = k' := by
  obtain ⟨a1, a2, a3⟩ := h
  obtain ⟨b1, b2, b3⟩ := h'
  rcases Nat.lt_trichotomy k k' with h | h | h
  · have := a3 k (by omega) (Nat.le_refl _)
    have := b2 k (by omega) h
    omega
  · exact h
  · have := b3 k' (by omega) (Nat.le_refl _)
    have := a2 k' (by omega) h
    omega
theorem find_fix (r : Rc) (hr : RcOk r) (id : Nat) : ∃ (k : Nat) (f : Bool), Low r.list id k ∧ (f = true ↔ ∃ h : k < r.list.length, r.list[k].1 = id) ∧ ∀ (w : World) (ok : Nat → Prop) (lv : Value), EntsR ok w lv r.list →
    Calls Tryz.prog 61 #[rcV r lv, .int .u32 id] w fun e w' => e = .returned (.tuple #[.int .i64 k, .bool f]) ∧ Below w.heap.size w w' := by
  obtain ⟨k, hk⟩ := low_exists (fun i j hi hj hij => hr.list.sorted i j hi hj hij) id
  refine ⟨k, decide (∃ h : k < r.list.length, r.list[k].1 = id), hk, by simp, fun w ok lv hl => (find_any r hr id w ok lv hl).mono ?_⟩
  rintro e w' ⟨⟨k', f', rfl, hlow, hf⟩, hb⟩
  obtain rfl := low_unique hk hlow
  refine ⟨?_, hb⟩
  have hfe : f' = decide (∃ h : k < r.list.length, r.list[k].1 = id) := by
    rw [Bool.eq_iff_iff, hf]
    simp
  rw [hfe]

set_option maxRecDepth 100000 in
set_option maxHeartbeats 1000000 in
theorem setDo_missing (W : World) (N Ib D id : Nat) (r : Rc) (hr : RcOk r) (hno : ∀ i (h : i < r.list.length), r.list[i].1 ≠ id) (lv : Value) (ok : Nat → Prop) (hb : Blk W N 39 #[.int .u32 r.next, .int .u32 r.ver, lv]) (he : EntsR ok W lv r.list) (hI : Blk W Ib 36 #[.int .u32 id]) :
    Calls Tryz.prog 62 #[.pointer (some ⟨N, 0, none⟩), .pointer (some ⟨Ib, 0, none⟩), .pointer (some ⟨D, 0, none⟩)] W fun e w' => e = .returned (.int .i64 11) ∧ Below W.heap.size W w' := by
  obtain ⟨LA, Lc, rfl, _⟩ := he.form
  obtain ⟨k, f, _, hf, hfind⟩ := find_fix r hr id
  have hff : f = false := by
    cases f with
    | false => rfl
    | true =>
      obtain ⟨hk, hid⟩ := hf.1 rfl
      exact absurd hid (hno k hk)
  subst hff
  have HB := Lib.hid hb
  have HI := Lib.hid hI
  have HFI : Hid (∀ X, Below W.heap.size W X → Calls Tryz.prog 61 #[.agg #[.int .u32 r.next, .int .u32 r.ver, .slice LA r.list.length Lc], .int .u32 id] X fun e w' => e = .returned (.tuple #[.int .i64 k, .bool false]) ∧ Below X.heap.size X w') := Lib.hid fun X hX => by
    have := hfind X ok _ (he.kp (Kp.of_below hX (fun _ => False)) (fun _ _ _ x => x))
    unfold rcV at this
    exact this
  clear he hb hI hr hno hf hfind
  go_enter Tryz.func62, Tryz.ntmps62
  go_wp2_with fail
  refine region_fixed_all (by kernel_rfl) (fun j => [Value.pointer (some ⟨N, 0, none⟩), .pointer (some ⟨N, 0, none⟩), .agg #[.int .u32 r.next, .int .u32 r.ver, .slice LA r.list.length Lc], .int .u32 id, .tuple #[.int .i64 k, .bool false], .tuple #[.int .i64 k, .bool false], .int .i64 k, .bool false, .int .i64 k, .bool false].getD j undef) (fun Y => Kp (fun _ => False) W Y) (by kernel_rfl) ?h0 ?hops ?hend
  case h0 => exact (Kp.refl _ W).drew
  case hops =>
    refine ⟨?_, ?_, ?_, ?_, ?_, ?_, ?_, ?_, ?_, ?_, trivial⟩
    all_goals intro L b Y hL hS K hK
    · have q1 := hL.old_ 0 (by kernel_rfl)
      simp at q1
      go_simp
      exact hK _ hS
    · have q1 := hL.dep 0 8 (by kernel_rfl)
      simp at q1
      go_simp
      exact hK _ hS
    · have q1 := hL.dep 1 9 (by kernel_rfl)
      obtain ⟨c0, c1, c2⟩ := recs3 (HB.out.kp hS (fun x => x))
      simp at q1
      go_simp
      exact hK _ hS
    · have q1 := hL.old_ 1 (by kernel_rfl)
      have z1 : Y.cell? ⟨Ib, 0, none⟩ = some (.int .u32 id) := (HI.out.kp hS (fun x => x)).cell 0
      simp at q1
      go_simp
      exact hK _ hS
    · have q1 := hL.dep 2 10 (by kernel_rfl)
      have q2 := hL.dep 3 11 (by kernel_rfl)
      simp at q1 q2
      have hc := HFI.out Y hS.below
      go_simp
      refine hc.mono ?_
      rintro e w' ⟨rfl, hb'⟩
      exact hK _ (hS.below_trans hb')
    · have q1 := hL.dep 4 12 (by kernel_rfl)
      simp at q1
      go_simp
      exact hK _ hS
    · have q1 := hL.dep 5 7 (by kernel_rfl)
      simp at q1
      go_simp
      exact hK _ hS
    · have q1 := hL.dep 5 7 (by kernel_rfl)
      simp at q1
      go_simp
      exact hK _ hS
    · have q1 := hL.dep 6 13 (by kernel_rfl)
      simp at q1
      go_simp
      exact hK _ hS
    · have q1 := hL.dep 7 14 (by kernel_rfl)
      simp at q1
      go_simp
      exact hK _ hS
  case hend =>
    intro Y hS
    simp only [putList_cons, putList_nil]
    have HK := Lib.hid hS.below
    clear hS
    go_simp
    go_wp2_with fail
    go_ret
    exact ⟨rfl, HK.out⟩

set_option maxRecDepth 100000 in
theorem Set_missing (w : World) (s p pb pw g m : Nat) (B : BS) (h : StoreAt w s p pb pw g m B) (suite name : ByteArray) (h1 : nameB suite = true) (h2 : nameB name = true) (r : Rc) (hr : RcOk r) (a b : Nat) (hm : idxFind B.idx (keyS suite name) = some (placeV a b ⟨(rcB r).toArray⟩))
    (id : Nat) (hno : ∀ i (h : i < r.list.length), r.list[i].1 ≠ id) (dA : Option Addr) (dn dc : Nat) :
    Calls Tryz.prog 37 #[.pointer (some ⟨s, 0, none⟩), .string suite, .string name, .int .u32 id, .slice dA dn dc] w fun e w' => e = .returned (.int .i64 11) ∧ Below w.heap.size w w' := by
  obtain ⟨W, hW, HK, HST, HI⟩ : ∃ W, (w.alloc (.cells #[.int .u32 id] 36)).alloc (.cells #[.slice dA dn dc] 31) = W ∧ Hid (Kp (fun _ => False) w W) ∧ Hid (StoreAt W s p pb pw g m B) ∧ Hid (Blk W w.heap.size 36 #[.int .u32 id]) := by
    have k : Kp (fun _ => False) w ((w.alloc (.cells #[.int .u32 id] 36)).alloc (.cells #[.slice dA dn dc] 31)) := ((Kp.refl _ w).alloc _).alloc _
    exact ⟨_, rfl, Lib.hid k, Lib.hid (h.below k.below), Lib.hid ((Blk.new _ _ _).alloc _)⟩
  have HCH := Lib.hid (change_no W s p pb pw g m B HST.out suite name h1 h2 r hr a b hm 62 #[.pointer (some ⟨w.heap.size, 0, none⟩), .pointer (some ⟨w.heap.size + 1, 0, none⟩)] 11 (by omega) (enters_of Tryz.func62 (by kernel_rfl) rfl)
    (fun W' N lv hw hN hb he => setDo_missing W' N w.heap.size (w.heap.size + 1) id r hr hno lv (fun _ => True) hb (he.reads (fun _ _ _ => trivial) (fun _ _ _ => trivial)) (HI.out.kp hw (fun x => x))))
  clear h h1 h2 hr hm hno
  go_enter Tryz.func37, Tryz.ntmps37
  go_wp2_with fail
  refine HCH.out.mono ?_
  rintro e w2 ⟨rfl, hb⟩
  have HK2 := Lib.hid (HK.out.below_trans hb).below
  clear hb
  go_wp2
  go_ret
  exact ⟨rfl, HK2.out⟩
end Go.Proofs.YtnaphhfmccbamaaGreatDoor

namespace Go.Proofs.YtnaphhfmccbamaaGreatDoor
open Go.RowKit

theorem dataS_ok : nameB dataS = true := by decide
theorem openC_nil (w : World) (cr : Bool) : OpenC w (.pointer none) cr 5 (fun k w1 => k = 0 ∧ Below w.heap.size w w1) :=
  (open_nil w cr).mono fun _ _ ⟨he, hb⟩ => ⟨0, 0, none, 0, 0, he, rfl, hb⟩
theorem openC_bad (w : World) (v : Nat) (sp : Option Addr) (suite : ByteArray) (lv : Value) (hb : Blk w v 63 #[.pointer sp, .string suite, lv]) (cr : Bool) (hs : nameB suite = false) :
    OpenC w (.pointer (some ⟨v, 0, none⟩)) cr 13 (fun k w1 => k = 0 ∧ Below w.heap.size w w1) := by
  refine (open_gen w v sp suite lv hb cr 13 (fun _ => False) (fun _ x => x.elim) (fun n ver A k c W w' => k = 0) (fun W hW => ?_)).mono ?_
  · refine (Open_absent W (.pointer sp) suite dataS cr 13 (.inl (by decide)) (fun W' hW' => load_name W' (.pointer sp) suite dataS (by rw [hs]; rfl))).mono ?_
    rintro e w' ⟨rfl, hb'⟩
    exact ⟨0, 0, none, 0, 0, rfl, rfl, Kp.of_below hb' _⟩
  · rintro e w' ⟨n, ver, A, k, c, W0, w1, rfl, h1, hk, h2, h3, h4⟩
    exact ⟨n, ver, A, k, c, rfl, hk, ((h1.trans h2 (fun _ x _ => x)).trans h3 (fun b hb hlt => by omega)).below⟩
theorem openC_absent (w : World) (v : Nat) (s p pb pw g m : Nat) (B : BS) (h : StoreAt w s p pb pw g m B) (suite : ByteArray) (lv : Value) (hb : Blk w v 63 #[.pointer (some ⟨s, 0, none⟩), .string suite, lv]) (hs : nameB suite = true) (hm : idxFind B.idx (keyS suite dataS) = none) :
    OpenC w (.pointer (some ⟨v, 0, none⟩)) false 11 (fun k w1 => k = 0 ∧ Below w.heap.size w w1) := by
  refine (open_gen w v _ suite lv hb false 11 (fun _ => False) (fun _ x => x.elim) (fun n ver A k c W w' => k = 0) (fun W hW => ?_)).mono ?_
  · refine (Open_absent W (.pointer (some ⟨s, 0, none⟩)) suite dataS false 11 (.inr rfl) (fun W' hW' => load_missing W' s p pb pw g m B (h.below ((hW.trans hW' (fun _ x _ => x)).below)) suite dataS hs dataS_ok hm)).mono ?_
    rintro e w' ⟨rfl, hb'⟩
    exact ⟨0, 0, none, 0, 0, rfl, rfl, Kp.of_below hb' _⟩
  · rintro e w' ⟨n, ver, A, k, c, W0, w1, rfl, h1, hk, h2, h3, h4⟩
    exact ⟨n, ver, A, k, c, rfl, hk, ((h1.trans h2 (fun _ x _ => x)).trans h3 (fun b hb hlt => by omega)).below⟩
theorem openC_ok (w : World) (v : Nat) (s p pb pw g m : Nat) (B : BS) (h : StoreAt w s p pb pw g m B) (suite : ByteArray) (lv : Value) (hb : Blk w v 63 #[.pointer (some ⟨s, 0, none⟩), .string suite, lv]) (hs : nameB suite = true) (r : Rc) (hr : RcOk r) (a b : Nat) (hm : idxFind B.idx (keyS suite dataS) = some (placeV a b ⟨(rcB r).toArray⟩)) (cr : Bool) :
    OpenC w (.pointer (some ⟨v, 0, none⟩)) cr 0 (fun k w1 => k = r.list.length ∧ Below w.heap.size w w1) := by
  refine (open_gen w v _ suite lv hb cr 0 (fun _ => False) (fun _ x => x.elim) (fun n ver A k c W w' => k = r.list.length) (fun W hW => ?_)).mono ?_
  · refine (Open_ok W s p pb pw g m B (h.below hW.below) suite dataS hs dataS_ok r hr a b hm cr).mono ?_
    rintro e w' ⟨A, c, rfl, _, hb'⟩
    exact ⟨r.next, r.ver, A, r.list.length, c, rfl, rfl, Kp.of_below hb' _⟩
  · rintro e w' ⟨n, ver, A, k, c, W0, w1, rfl, h1, hk, h2, h3, h4⟩
    exact ⟨n, ver, A, k, c, rfl, hk, ((h1.trans h2 (fun _ x _ => x)).trans h3 (fun b hb hlt => by omega)).below⟩

/-- What Get tells: an entry's data, or that it isn't there. -/
structure NGetPost (base : Nat) (l : List (Nat × List UInt8)) (id : Int) (e : Ending) (w' : World) : Prop where
  out : (∃ (k : Nat) (h : k < l.length) (dv : Value), (l[k].1 : Int) = id ∧ e = .returned (.tuple #[dv, .bool true, .int .i64 0]) ∧ Sl (fun b => base ≤ b) w' dv (bytesV l[k].2)) ∨ ((∀ i (h : i < l.length), (l[i].1 : Int) ≠ id) ∧ e = .returned (.tuple #[.slice none 0 0, .bool false, .int .i64 0]))
structure GtR (X : World) (l : List (Nat × List UInt8)) (idn : Nat) (L : Nat → Prop) (V : Nat → Value) (W : World) : Prop where
  kp : Kp (fun _ => False) X W
  post : L 10 → (∃ (k : Nat) (h : k < l.length) (A : Option Addr) (n c : Nat), l[k].1 = idn ∧ V 10 = .tuple #[.slice A n c, .int .i64 0] ∧ Sl (fun b => X.heap.size ≤ b) W (.slice A n c) (bytesV l[k].2)) ∨ ((∀ i (h : i < l.length), l[i].1 ≠ idn) ∧ V 10 = .tuple #[.slice none 0 0, .int .i64 11])
  p11 : L 11 → V 11 = V 10
  p12 : L 12 → ∃ a b, V 10 = .tuple #[a, b] ∧ V 12 = a
  p13 : L 13 → ∃ a b, V 10 = .tuple #[a, b] ∧ V 13 = b
  p14 : L 14 → V 14 = V 12
  p15 : L 15 → V 15 = V 13

section
variable {X : World} {l : List (Nat × List UInt8)} {idn : Nat} {L : Nat → Prop} {V : Nat → Value} {W : World}
theorem GtR.form (h : GtR X l idn L V W) (h10 : L 10) : ∃ A n c er, V 10 = .tuple #[.slice A n c, .int .i64 er] := by
  rcases h.post h10 with ⟨k, hk, A, n, c, _, e, _⟩ | ⟨_, e⟩
  · exact ⟨A, n, c, 0, e⟩
  · exact ⟨none, 0, 0, 11, e⟩
theorem GtR.put (h : GtR X l idn L V W) (i : Nat) (h10 : 10 ≠ i) (v : Value) (c11 : 11 = i → v = V 10) (c12 : 12 = i → ∃ a b, V 10 = .tuple #[a, b] ∧ v = a) (c13 : 13 = i → ∃ a b, V 10 = .tuple #[a, b] ∧ v = b) (c14 : 14 = i → v = V 12) (c15 : 15 = i → v = V 13) (n12 : L 14 ∨ 14 = i → 12 ≠ i) (n13 : L 15 ∨ 15 = i → 13 ≠ i) :
    GtR X l idn (fun j => L j ∨ j = i) (upd V i v) W := by
  refine ⟨h.kp, fun hl => ?_, fun hl => ?_, fun hl => ?_, fun hl => ?_, fun hl => ?_, fun hl => ?_⟩
  · rw [upd_ne _ _ h10]; exact h.post (hl.resolve_right h10)
  · rw [upd_ne _ _ h10]
    by_cases e : 11 = i
    · subst e; rw [upd_same]; exact c11 rfl
    · rw [upd_ne _ _ e]; exact h.p11 (hl.resolve_right e)
  · rw [upd_ne _ _ h10]
    by_cases e : 12 = i
    · subst e; rw [upd_same]; exact c12 rfl
    · rw [upd_ne _ _ e]; exact h.p12 (hl.resolve_right e)
  · rw [upd_ne _ _ h10]
    by_cases e : 13 = i
    · subst e; rw [upd_same]; exact c13 rfl
    · rw [upd_ne _ _ e]; exact h.p13 (hl.resolve_right e)
  · rw [upd_ne _ _ (n12 hl)]
    by_cases e : 14 = i
    · subst e; rw [upd_same]; exact c14 rfl
    · rw [upd_ne _ _ e]; exact h.p14 (hl.resolve_right e)
  · rw [upd_ne _ _ (n13 hl)]
    by_cases e : 15 = i
    · subst e; rw [upd_same]; exact c15 rfl
    · rw [upd_ne _ _ e]; exact h.p15 (hl.resolve_right e)
end

set_option maxRecDepth 100000 in
set_option maxHeartbeats 1000000 in
theorem NGet_ok (w : World) (v : Nat) (s p pb pw g m : Nat) (B : BS) (h : StoreAt w s p pb pw g m B) (suite : ByteArray) (lv : Value) (hb : Blk w v 63 #[.pointer (some ⟨s, 0, none⟩), .string suite, lv]) (hs : nameB suite = true) (r : Rc) (hr : RcOk r) (a b : Nat) (hm : idxFind B.idx (keyS suite dataS) = some (placeV a b ⟨(rcB r).toArray⟩)) (id : Int) (h1 : -2147483648 ≤ id) (h2 : id ≤ 2147483647) :
    Calls Tryz.prog 18 #[.pointer (some ⟨v, 0, none⟩), .int .i32 id] w fun e w' => NGetPost w.heap.size r.list id e w' ∧ Below w.heap.size w w' := by
  have HO := Lib.hid (openC_ok w v s p pb pw g m B h suite lv hb hs r hr a b hm false)
  have HB := Lib.hid hb
  have hpos : ∀ i (h : i < r.list.length), 1 ≤ r.list[i].1 := fun i h => by have := hr.list.lt_all i h; omega
  by_cases hid : id < 1
  · have t1 : decide (id < 1) = true := decide_eq_true hid
    have HN : Hid (∀ w', NGetPost w.heap.size r.list id (.returned (.tuple #[.slice none 0 0, .bool false, .int .i64 0])) w') := Lib.hid fun w' => ⟨.inr ⟨fun i h => by have := hpos i h; omega, rfl⟩⟩
    clear h hb hs hr hm hpos hid
    go_enter Tryz.func18, Tryz.ntmps18
    go_wp2_with fail
    refine HO.out.mono ?_
    rintro e w1 ⟨n, ver, A, k, c, rfl, hk, hb1⟩
    unfold recT
    have HK1 := Lib.hid ((Kp.of_below hb1 (fun _ => False)).alloc (.cells #[.int .u32 n, .int .u32 ver, .slice A k c] 39))
    clear hk hb1
    go_wp2_with fail
    go_ret3
    exact ⟨HN.out _, HK1.out.below⟩
  · have t1 : decide (id < 1) = false := decide_eq_false hid
    obtain ⟨idn, hidn⟩ : ∃ n : Nat, (n : Int) = id := ⟨id.toNat, by omega⟩
    subst hidn
    have tw : IntKind.u32.wrap (idn : Int) = idn := by rw [IntKind.wrap_u32]; omega
    have HG : Hid (∀ W, Kp (fun _ => False) w W → Calls Tryz.prog 34 #[.pointer (some ⟨s, 0, none⟩), .string suite, .string dataS, .int .u32 idn] W fun e w' => GetPost W.heap.size r.list idn e w' ∧ Below W.heap.size W w') := Lib.hid fun W hW => rmsGet_ok W s p pb pw g m B (h.below hW.below) suite dataS hs dataS_ok r hr a b hm idn
    clear h hb hs hr hm hpos hid
    go_enter Tryz.func18, Tryz.ntmps18
    go_wp2_with fail
    refine HO.out.mono ?_
    rintro e w1 ⟨n, ver, A, k, c, rfl, hk, hb1⟩
    unfold recT
    obtain ⟨X, hX, HKX⟩ : ∃ X, w1.alloc (.cells #[.int .u32 n, .int .u32 ver, .slice A k c] 39) = X ∧ Hid (Kp (fun _ => False) w X) := ⟨_, rfl, Lib.hid ((Kp.of_below hb1 (fun _ => False)).alloc _)⟩
    clear hk hb1
    go_wp2_with fail
    clear hX
    refine region_parts_all (by kernel_rfl) (fun j => [some (Value.pointer (some ⟨v, 0, none⟩)), some (.pointer (some ⟨v, 0, none⟩)), some (.pointer (some ⟨v, 0, none⟩)), some (.pointer (some ⟨s, 0, none⟩)), some (.pointer (some ⟨v, 0, none⟩)), some (.pointer (some ⟨v, 0, none⟩)), some (.pointer (some ⟨v, 1, none⟩)), some (.string suite), some (.int .i32 idn), some (.int .u32 idn), none, none, none, none, none, none].getD j none)
      (GtR X r.list idn) (by kernel_rfl) ?h0 ?hops ?hend
    case h0 => exact fun V => ⟨(Kp.refl _ X).drew, fun h => h.elim, fun h => h.elim, fun h => h.elim, fun h => h.elim, fun h => h.elim, fun h => h.elim⟩
    case hops =>
      refine ⟨?_, ?_, ?_, ?_, ?_, ?_, ?_, ?_, ?_, ?_, ?_, ?_, ?_, ?_, ?_, ?_, trivial⟩
      all_goals
        intro L V b Y hL hF hR K hK
        have z0 : Y.cell? ⟨v, 0, none⟩ = some (.pointer (some ⟨s, 0, none⟩)) := ((HB.out.kp HKX.out (fun x => x)).kp hR.kp (fun x => x)).cell 0
        have z1 : Y.cell? ⟨v, 1, none⟩ = some (.string suite) := ((HB.out.kp HKX.out (fun x => x)).kp hR.kp (fun x => x)).cell 1
      · have q1 := hL.old_ 0 (by kernel_rfl)
        simp at q1
        go_simp
        exact hK _ hR
      · have q1 := hL.depv hF 0 26 _ rfl (by kernel_rfl)
        go_simp
        exact hK _ hR
      · have q1 := hL.depv hF 1 27 _ rfl (by kernel_rfl)
        go_simp
        exact hK _ hR
      · have q1 := hL.depv hF 2 28 _ rfl (by kernel_rfl)
        go_simp
        exact hK _ hR
      · have q1 := hL.old_ 0 (by kernel_rfl)
        simp at q1
        go_simp
        exact hK _ hR
      · have q1 := hL.depv hF 4 30 _ rfl (by kernel_rfl)
        go_simp
        exact hK _ hR
      · have q1 := hL.depv hF 5 31 _ rfl (by kernel_rfl)
        go_simp
        exact hK _ hR
      · have q1 := hL.depv hF 6 32 _ rfl (by kernel_rfl)
        go_simp
        exact hK _ hR
      · have q1 := hL.old_ 1 (by kernel_rfl)
        simp at q1
        go_simp
        exact hK _ hR
      · have q1 := hL.depv hF 8 34 _ rfl (by kernel_rfl)
        go_simp
        exact hK _ hR
      · have q1 := hL.depv hF 3 29 _ rfl (by kernel_rfl)
        have q2 := hL.depv hF 7 33 _ rfl (by kernel_rfl)
        have q3 := hL.depv hF 9 35 _ rfl (by kernel_rfl)
        have hc := HG.out Y (HKX.out.trans hR.kp (fun _ x _ => x))
        have hs := hR.kp.size
        have hkp := hR.kp
        clear hR
        go_simp
        refine hc.mono ?_
        rintro e w' ⟨⟨hg⟩, hb'⟩
        have hk' := hkp.below_trans hb'
        rcases hg with ⟨k, hk, dv, hid, rfl, hsl⟩ | ⟨hno, rfl⟩
        · obtain ⟨A, c, rfl, _⟩ := hsl.form
          exact hK _ _ ⟨hk', fun _ => .inl ⟨k, hk, A, _, c, hid, upd_same _ _ _, hsl.mono (fun b hb _ => by omega)⟩, fun h => absurd (h.resolve_right (by decide)) (hL.notn 11 (by kernel_rfl)), fun h => absurd (h.resolve_right (by decide)) (hL.notn 12 (by kernel_rfl)), fun h => absurd (h.resolve_right (by decide)) (hL.notn 13 (by kernel_rfl)), fun h => absurd (h.resolve_right (by decide)) (hL.notn 14 (by kernel_rfl)), fun h => absurd (h.resolve_right (by decide)) (hL.notn 15 (by kernel_rfl))⟩
        · exact hK _ _ ⟨hk', fun _ => .inr ⟨hno, upd_same _ _ _⟩, fun h => absurd (h.resolve_right (by decide)) (hL.notn 11 (by kernel_rfl)), fun h => absurd (h.resolve_right (by decide)) (hL.notn 12 (by kernel_rfl)), fun h => absurd (h.resolve_right (by decide)) (hL.notn 13 (by kernel_rfl)), fun h => absurd (h.resolve_right (by decide)) (hL.notn 14 (by kernel_rfl)), fun h => absurd (h.resolve_right (by decide)) (hL.notn 15 (by kernel_rfl))⟩
      · have q1 := hL.dep 10 36 (by kernel_rfl)
        obtain ⟨A, n, c, er, e10⟩ := hR.form (hL.isn 10 rfl (by kernel_rfl))
        have e10' : V 10 = .tuple #[.slice A n c, .int .i64 er] := e10
        rw [e10'] at q1
        have hp := hR.put 11 (by decide) (.tuple #[.slice A n c, .int .i64 er]) (fun _ => e10.symm) (fun h => absurd h (by decide)) (fun h => absurd h (by decide)) (fun h => absurd h (by decide)) (fun h => absurd h (by decide)) (fun _ => by decide) (fun _ => by decide)
        go_simp
        exact hK _ _ hp
      · have q1 := hL.dep 11 25 (by kernel_rfl)
        obtain ⟨A, n, c, er, e10⟩ := hR.form (hL.isn 10 rfl (by kernel_rfl))
        have e11 : V 11 = .tuple #[.slice A n c, .int .i64 er] := (hR.p11 (hL.isn 11 rfl (by kernel_rfl))).trans e10
        rw [e11] at q1
        have hp := hR.put 12 (by decide) (.slice A n c) (fun h => absurd h (by decide)) (fun _ => ⟨_, _, e10, rfl⟩) (fun h => absurd h (by decide)) (fun h => absurd h (by decide)) (fun h => absurd h (by decide)) (fun h => absurd (h.resolve_right (by decide)) (hL.notn 14 (by kernel_rfl))) (fun _ => by decide)
        go_simp
        exact hK _ _ hp
      · have q1 := hL.dep 11 25 (by kernel_rfl)
        obtain ⟨A, n, c, er, e10⟩ := hR.form (hL.isn 10 rfl (by kernel_rfl))
        have e11 : V 11 = .tuple #[.slice A n c, .int .i64 er] := (hR.p11 (hL.isn 11 rfl (by kernel_rfl))).trans e10
        rw [e11] at q1
        have hp := hR.put 13 (by decide) (.int .i64 er) (fun h => absurd h (by decide)) (fun h => absurd h (by decide)) (fun _ => ⟨_, _, e10, rfl⟩) (fun h => absurd h (by decide)) (fun h => absurd h (by decide)) (fun _ => by decide) (fun h => absurd (h.resolve_right (by decide)) (hL.notn 15 (by kernel_rfl)))
        go_simp
        exact hK _ _ hp
      · have q1 := hL.dep 12 37 (by kernel_rfl)
        obtain ⟨A, n, c, er, e10⟩ := hR.form (hL.isn 10 rfl (by kernel_rfl))
        obtain ⟨a', b', ea, e12⟩ := hR.p12 (hL.isn 12 rfl (by kernel_rfl))
        have e12' : V 12 = .slice A n c := by
          rw [e10] at ea
          injection ea with ea
          have := congrArg (fun z : Array Value => z[0]?) ea
          simp at this
          rw [this]
          exact e12
        rw [e12'] at q1
        have hp := hR.put 14 (by decide) (.slice A n c) (fun h => absurd h (by decide)) (fun h => absurd h (by decide)) (fun h => absurd h (by decide)) (fun _ => e12'.symm) (fun h => absurd h (by decide)) (fun _ => by decide) (fun _ => by decide)
        go_simp
        exact hK _ _ hp
      · have q1 := hL.dep 13 38 (by kernel_rfl)
        obtain ⟨A, n, c, er, e10⟩ := hR.form (hL.isn 10 rfl (by kernel_rfl))
        obtain ⟨a', b', ea, e13⟩ := hR.p13 (hL.isn 13 rfl (by kernel_rfl))
        have e13' : V 13 = .int .i64 er := by
          rw [e10] at ea
          injection ea with ea
          have := congrArg (fun z : Array Value => z[1]?) ea
          simp at this
          rw [this]
          exact e13
        rw [e13'] at q1
        have hp := hR.put 15 (by decide) (.int .i64 er) (fun h => absurd h (by decide)) (fun h => absurd h (by decide)) (fun h => absurd h (by decide)) (fun h => absurd h (by decide)) (fun _ => e13'.symm) (fun _ => by decide) (fun _ => by decide)
        go_simp
        exact hK _ _ hp
    case hend =>
      intro L V Y hall hfix hR
      have e0 := hfix 0 _ (by decide) rfl
      have e1 := hfix 1 _ (by decide) rfl
      have e2 := hfix 2 _ (by decide) rfl
      have e3 := hfix 3 _ (by decide) rfl
      have e4 := hfix 4 _ (by decide) rfl
      have e5 := hfix 5 _ (by decide) rfl
      have e6 := hfix 6 _ (by decide) rfl
      have e7 := hfix 7 _ (by decide) rfl
      have e8 := hfix 8 _ (by decide) rfl
      have e9 := hfix 9 _ (by decide) rfl
      have hpo := hR.post (hall 10 rfl (by decide))
      have h11 : V 11 = V 10 := hR.p11 (hall 11 rfl (by decide))
      obtain ⟨a1, b1, ea1, e12⟩ := hR.p12 (hall 12 rfl (by decide))
      obtain ⟨a2, b2, ea2, e13⟩ := hR.p13 (hall 13 rfl (by decide))
      have e12' : V 12 = a1 := e12
      have e13' : V 13 = b2 := e13
      have h14 : V 14 = V 12 := hR.p14 (hall 14 rfl (by decide))
      have h15 : V 15 = V 13 := hR.p15 (hall 15 rfl (by decide))
      have hk := hR.kp
      have hsX := HKX.out.size
      simp only [putList_cons, putList_nil, e0, e1, e2, e3, e4, e5, e6, e7, e8, e9]
      rcases hpo with ⟨k, hkl, A, n, c, hid, e10, hsl⟩ | ⟨hno, e10⟩
      · have e10' : V 10 = .tuple #[.slice A n c, .int .i64 0] := e10
        have ha : a1 = .slice A n c := by
          rw [e10] at ea1; injection ea1 with ea1; have := congrArg (fun z : Array Value => z[0]?) ea1; simp at this; exact this.symm
        have hb2 : b2 = .int .i64 0 := by
          rw [e10] at ea2; injection ea2 with ea2; have := congrArg (fun z : Array Value => z[1]?) ea2; simp at this; exact this.symm
        rw [h11, h14, h15, e12', e13', e10', ha, hb2]
        have FIN : Hid (NGetPost w.heap.size r.list idn (.returned (.tuple #[.slice A n c, .bool true, .int .i64 0])) Y) := Lib.hid ⟨.inl ⟨k, hkl, _, by rw [hid], rfl, hsl.mono (fun b hb _ => by omega)⟩⟩
        have HB' := Lib.hid (HKX.out.trans hk (fun _ x _ => x)).below
        clear hR e0 e1 e2 e3 e4 e5 e6 e7 e8 e9 e10 e10' e12 e12' e13 e13' h11 h14 h15 ea1 ea2 ha hb2 hall hfix hsl hk
        go_simp
        go_wp2
        go_ret3
        exact ⟨FIN.out, HB'.out⟩
      · have e10' : V 10 = .tuple #[.slice none 0 0, .int .i64 11] := e10
        have ha : a1 = .slice none 0 0 := by
          rw [e10] at ea1; injection ea1 with ea1; have := congrArg (fun z : Array Value => z[0]?) ea1; simp at this; exact this.symm
        have hb2 : b2 = .int .i64 11 := by
          rw [e10] at ea2; injection ea2 with ea2; have := congrArg (fun z : Array Value => z[1]?) ea2; simp at this; exact this.symm
        rw [h11, h14, h15, e12', e13', e10', ha, hb2]
        have FIN : Hid (NGetPost w.heap.size r.list idn (.returned (.tuple #[.slice none 0 0, .bool false, .int .i64 0])) Y) := Lib.hid ⟨.inr ⟨fun i hi he => hno i hi (by omega), rfl⟩⟩
        have HB' := Lib.hid (HKX.out.trans hk (fun _ x _ => x)).below
        clear hR e0 e1 e2 e3 e4 e5 e6 e7 e8 e9 e10 e10' e12 e12' e13 e13' h11 h14 h15 ea1 ea2 ha hb2 hall hfix hno hk
        go_simp
        go_wp2
        go_ret3
        exact ⟨FIN.out, HB'.out⟩
end Go.Proofs.YtnaphhfmccbamaaGreatDoor

namespace Go.Proofs.YtnaphhfmccbamaaGreatDoor
open Go.RowKit

theorem own_ne {w : World} {base : Nat} {e T : TypeId} {sz n : Nat} {v : Value} {xs : List Value} {sb : Nat} {cs : Array Value} (h : w.ownsRow base e sz v n xs) (hb : Blk w sb T cs) (ht : T ≠ e) {b : Nat} (hv : v.ownBlock = some b) : b ≠ sb := by
  rcases h.2 with ⟨rfl, _⟩ | ⟨g, cap, cur, rfl, a2, a3, _⟩
  · cases hv
  · have hv' : some g = some b := hv
    injection hv' with hv'
    subst hv'
    exact (hb.ne_ (t' := e) a3 ht).symm
theorem AppR.storeT {X W : World} {base sb : Nat} {T e : TypeId} {sz : Nat} {st : Value → Array Value} {lv : Value} {k : Nat} {xs : List Value} {nw : Value → List Value} {iv ia ip is_ : Nat} {L : Nat → Prop} {V : Nat → Value}
    (h : AppR X base sb T e sz st lv k xs nw iv ia ip is_ L V W) (n1 : iv ≠ is_) (n2 : ia ≠ is_) (n3 : ip ≠ is_) (hip : L ip) (his : ¬ L is_) (ht : T ≠ e) (fi : Nat) (hst : ∀ u, (st lv).setIfInBounds fi u = st u) (q : Value) :
    AppR X base sb T e sz st lv k xs nw iv ia ip is_ (fun j => L j ∨ j = is_) (upd V is_ q) (W.setCell ⟨sb, fi, none⟩ (V ip)) := by
  have kk : Kp (fun b => b = sb) W (W.setCell ⟨sb, fi, none⟩ (V ip)) := Kp.set_ (S := fun b => b = sb) (Kp.refl _ W) (.inl rfl) _
  refine ⟨h.kp.trans kk (fun b hb _ => .inl hb), fun hl => ?_, fun hl => absurd (Or.inl hip) hl, fun _ => ?_, fun hl => absurd (Or.inr rfl) hl, fun _ => ?_⟩
  · obtain ⟨n, e1, h1, _⟩ := h.al (hl.resolve_right n2)
    exact ⟨n, by rw [upd_ne _ _ n2]; exact e1, h1, fun x => absurd (Or.inl hip) x⟩
  · rw [upd_ne _ _ n3, upd_ne _ _ n1]
    have ho := h.own2 hip
    exact ownsRow_kp ho kk (fun b hbo e => own_ne ho (h.st1 his) ht hbo e)
  · rw [upd_ne _ _ n3]
    have := (h.st1 his).set_ fi (V ip)
    rw [hst] at this
    exact this
theorem entsR_row {ok : Nat → Prop} {base : Nat} {w : World} {lv : Value} {l : List (Nat × List UInt8)} {ds : List Value} (hd : ds.length = l.length) (ho : w.ownsRow base 119 2 lv l.length (entV l ds))
    (hs : ∀ b, lv.ownBlock = some b → ok b) (hsl : ∀ i (h : i < l.length) d, ds[i]? = some d → Sl ok w d (bytesV l[i].2)) : EntsR ok w lv l := by
  rcases ho.2 with ⟨rfl, h0⟩ | ⟨g, cap, cur, rfl, a2, a3, a4, _, _, ht⟩
  · obtain rfl : l = [] := List.eq_nil_of_length_eq_zero h0
    exact EntsR.nil _ _
  · refine ⟨_, _, rfl, a4, fun _ => ⟨g, rfl, hs g rfl, Blk.lt (t := 119) a3, fun i hi => ?_⟩⟩
    have q := entV_get l ds hd i hi
    rw [← ht] at q
    rw [List.getElem?_take_of_lt (by omega), List.getElem?_take_of_lt (by omega)] at q
    have hdi : i < ds.length := by omega
    rw [List.getElem?_eq_getElem hdi] at q
    refine ⟨ds[i], ?_, ?_, hsl i hi _ (List.getElem?_eq_getElem hdi)⟩
    · rw [cell_of_row w g _ cur _ (0, 0) a3, ← Array.getElem?_toList]; exact q.1
    · rw [cell_of_row w g _ cur _ (0, 0) a3, ← Array.getElem?_toList]; exact q.2

set_option maxRecDepth 100000 in
set_option maxHeartbeats 4000000 in
theorem addDo_ok (w W : World) (hw : Kp (fun _ => False) w W) (N D I : Nat) (hN : w.heap.size ≤ N) (hI : I < w.heap.size) (hD : D < w.heap.size) (hDI : D ≠ I) (r : Rc) (hnx : r.next < 4294967295) (h64 : r.list.length < 64) (lv : Value)
    (hb : Blk W N 39 #[.int .u32 r.next, .int .u32 r.ver, lv]) (he : EntsO (fun b => w.heap.size ≤ b ∧ b ≠ N) w.heap.size W lv r.list)
    (dA : Option Addr) (dt : List UInt8) (hdt : dt.length ≤ 512) (dc : Nat) (hsl : Sl (fun b => b < w.heap.size ∧ b ≠ I) W (.slice dA dt.length dc) (bytesV dt)) (hDb : Blk W D 31 #[.slice dA dt.length dc]) (hIb : Blk W I 36 #[.int .u32 0]) :
    Calls Tryz.prog 59 #[.pointer (some ⟨N, 0, none⟩), .pointer (some ⟨D, 0, none⟩), .pointer (some ⟨I, 0, none⟩)] W fun e w' => e = .returned (.int .i64 0) ∧ DoPost w N { r with next := r.next + 1, list := r.list ++ [(r.next, dt)] } (fun b => b = I) (fun u => Blk u I 36 #[.int .u32 r.next]) W w' := by
  obtain ⟨LA, Lc, rfl, _⟩ := (he.reads (ok' := fun _ => True) (fun _ _ _ => trivial) (fun _ _ _ => trivial)).form
  obtain ⟨i0, hi, hy0, hy1, hy2⟩ := info_parts info_entry
  have HB := Lib.hid hb
  have HE := Lib.hid he
  have HSL := Lib.hid hsl
  have HD := Lib.hid hDb
  have HI := Lib.hid hIb
  obtain ⟨c0, c1, c2⟩ := recs3 hb
  have d0 : W.cell? ⟨D, 0, none⟩ = some (.slice dA dt.length dc) := hDb.cell 0
  have j0 : W.cell? ⟨I, 0, none⟩ = some (.int .u32 0) := hIb.cell 0
  have f0 := hIb.frozen 0
  have hlN := hb.lt
  have hlI := hIb.lt
  have hlD := hDb.lt
  have t1 : decide ((512 : Int) < (dt.length : Int)) = false := decide_eq_false (by omega)
  have t2 : decide ((64 : Int) ≤ (r.list.length : Int)) = false := decide_eq_false (by omega)
  have t3 : ((r.next : Int) == 4294967295) = false := beq_eq_false_iff_ne.2 (by omega)
  obtain ⟨X, hX, HKX, HBX, HEX, HSX, HDX, HIX⟩ : ∃ X, W.setCell ⟨I, 0, none⟩ (.int .u32 r.next) = X ∧ Hid (Kp (fun b => b = I) W X) ∧ Hid (Blk X N 39 #[.int .u32 r.next, .int .u32 r.ver, .slice LA r.list.length Lc]) ∧ Hid (EntsO (fun b => w.heap.size ≤ b ∧ b ≠ N) w.heap.size X (.slice LA r.list.length Lc) r.list) ∧
      Hid (Sl (fun b => b < w.heap.size ∧ b ≠ I) X (.slice dA dt.length dc) (bytesV dt)) ∧ Hid (Blk X D 31 #[.slice dA dt.length dc]) ∧ Hid (Blk X I 36 #[.int .u32 r.next]) := by
    have k : Kp (fun b => b = I) W (W.setCell ⟨I, 0, none⟩ (.int .u32 r.next)) := Kp.set_ (S := fun b => b = I) (Kp.refl _ _) (.inl rfl) _
    exact ⟨_, rfl, Lib.hid k, Lib.hid (hb.kp k (by omega)), Lib.hid (he.kp k (fun b hb _ => by omega) (fun b hb _ => by omega)), Lib.hid (hsl.kp k (fun b hb _ => hb.2)), Lib.hid (hDb.kp k hDI), Lib.hid (hIb.set_ 0 _)⟩
  clear hb he hsl hDb hIb
  go_enter Tryz.func59, Tryz.ntmps59
  go_wp2_with fail
  obtain ⟨ds, hds, hrow, hsd⟩ := HEX.out.out
  have hown := fun {b} => HEX.out.own_le (b := b)
  have HDS := Lib.hid hds
  have HSD := Lib.hid hsd
  obtain ⟨xs, hxs⟩ : ∃ l, entV r.list ds = l := ⟨_, rfl⟩
  have HXS := Lib.hid hxs
  rw [hxs] at hrow
  have HNE : Hid (∀ b, (Value.slice LA r.list.length Lc).ownBlock = some b → b ≠ N) := Lib.hid fun b hb => own_ne hrow HBX.out (by decide) hb
  have HOL : Hid (∀ b, (Value.slice LA r.list.length Lc).ownBlock = some b → w.heap.size ≤ b ∧ b < X.heap.size) := Lib.hid fun b hb => hown hb
  have hsX : W.heap.size ≤ X.heap.size := HKX.out.size
  have hwW := hw.size
  have hlNX := HBX.out.lt
  clear hds hsd hxs hown c0 c1 c2 d0 j0 f0 hX t1 t2 t3
  refine region_parts_all (by kernel_rfl) (fun j => [some (Value.pointer (some ⟨N, 0, none⟩)), some (.pointer (some ⟨N, 0, none⟩)), some (.pointer (some ⟨N, 0, none⟩)), some (.pointer (some ⟨N, 2, none⟩)), some (.slice LA r.list.length Lc), some (.int .u32 r.next), some (.slice dA dt.length dc), some (.agg #[.int .u32 r.next, .slice dA dt.length dc]), none, none, some (.pointer (some ⟨N, 0, none⟩)), some (.pointer (some ⟨N, 2, none⟩)), none].getD j none)
    (AppR X w.heap.size N 39 119 2 (fun v => #[.int .u32 r.next, .int .u32 r.ver, v]) (.slice LA r.list.length Lc) r.list.length xs (fun _ => [.int .u32 r.next, .slice dA dt.length dc]) 13 8 9 12) (by kernel_rfl) ?h0 ?hops ?hend
  case h0 => exact AppR.start hrow HBX.out
  case hops =>
    refine ⟨?_, ?_, ?_, ?_, ?_, ?_, ?_, ?_, ?_, ?_, ?_, ?_, ?_, trivial⟩
    all_goals intro L V b Y hL hF hR K hK
    · have q1 := hL.old_ 0 (by kernel_rfl)
      simp at q1
      go_simp
      exact hK _ hR
    · have q1 := hL.old_ 0 (by kernel_rfl)
      simp at q1
      go_simp
      exact hK _ hR
    · have q1 := hL.depv hF 1 28 _ rfl (by kernel_rfl)
      go_simp
      exact hK _ hR
    · have q1 := hL.depv hF 2 29 _ rfl (by kernel_rfl)
      go_simp
      exact hK _ hR
    · have q1 := hL.depv hF 3 30 _ rfl (by kernel_rfl)
      have z1 : Y.cell? ⟨N, 2, none⟩ = some (.slice LA r.list.length Lc) := (hR.st1 (hL.notn 12 (by kernel_rfl))).cell 2
      go_simp
      exact hK _ hR
    · have q1 := hL.old_ 2 (by kernel_rfl)
      have z1 : Y.cell? ⟨I, 0, none⟩ = some (.int .u32 r.next) := (HIX.out.kp hR.kp (fun h => by rcases h with h | h; omega; have := HOL.out _ h; omega)).cell 0
      simp at q1
      go_simp
      exact hK _ hR
    · have q1 := hL.old_ 1 (by kernel_rfl)
      have z1 : Y.cell? ⟨D, 0, none⟩ = some (.slice dA dt.length dc) := (HDX.out.kp hR.kp (fun h => by rcases h with h | h; omega; have := HOL.out _ h; omega)).cell 0
      simp at q1
      go_simp
      exact hK _ hR
    · have q1 := hL.depv hF 5 32 _ rfl (by kernel_rfl)
      have q2 := hL.depv hF 6 33 _ rfl (by kernel_rfl)
      go_simp
      exact hK _ hR
    · have q1 := hL.depv hF 7 34 _ rfl (by kernel_rfl)
      go_simp
      exact hK _ _ (hR.alloc (by decide) (by decide) (by decide) (hL.notn 9 (by kernel_rfl)) (hL.notn 12 (by kernel_rfl)))
    · have q1 := hL.depv hF 4 31 _ rfl (by kernel_rfl)
      have q2 := hL.dep 8 35 (by kernel_rfl)
      obtain ⟨n8, e8, hn8, hb8⟩ := hR.al (hL.isn 8 rfl (by kernel_rfl))
      have e8' : V 8 = .slice (some ⟨n8, 0, none⟩) 1 1 := e8
      rw [e8'] at q2
      have ho := hR.own hL.freshn
      have hr := reads2 (hb8 hL.freshn)
      have hbs := hR.kp.size
      refine step_append_any _ rfl (.tmp 31) (.tmp 35) 37 rfl w.heap.size 119 i0 _ 2 32 Tryz.underlying37 hi hy0 hy1 hy2 rfl (by omega) (.slice LA r.list.length Lc) r.list.length xs (by simp [Act.eval, q1]) ho Y.heap.size (some ⟨n8, 0, none⟩) 1 1 _ (by simp [Act.eval, q2]) hr (by intro u hu; simp at hu; rcases hu with rfl | rfl <;> rfl) (by unfold maxLen; omega) (by omega) (by omega) ?_
      intro v' w' hown hg _
      exact hK _ _ (hR.app (by decide) (by decide) (by decide) hL.freshn (hL.notn 12 (by kernel_rfl)) HNE.out v' hg hown)
    · have q1 := hL.depv hF 0 27 _ rfl (by kernel_rfl)
      go_simp
      exact hK _ hR
    · have q1 := hL.depv hF 10 37 _ rfl (by kernel_rfl)
      go_simp
      exact hK _ hR
    · have q1 := hL.depv hF 11 38 _ rfl (by kernel_rfl)
      have q2 := hL.dep 9 36 (by kernel_rfl)
      have st := hR.st1 hL.freshn
      have z1 : Y.cell? ⟨N, 2, none⟩ = some (.slice LA r.list.length Lc) := st.cell 2
      have f1 := st.frozen 2
      have hs := hR.storeT (by decide) (by decide) (by decide) (hL.isn 9 rfl (by kernel_rfl)) hL.freshn (by decide) 2 (fun u => rfl) undef
      obtain ⟨g9, cap9, e9, _⟩ := (hR.own2 (hL.isn 9 rfl (by kernel_rfl))).form (by omega)
      have e9' : V 9 = .slice (some ⟨g9, 0, none⟩) (r.list.length + 1) cap9 := e9
      rw [e9'] at q2
      rw [e9] at hs
      go_simp
      exact hK _ _ hs
  case hend =>
    intro L V Y hall hfix hR
    have e0 := hfix 0 _ (by decide) rfl
    have e1 := hfix 1 _ (by decide) rfl
    have e2 := hfix 2 _ (by decide) rfl
    have e3 := hfix 3 _ (by decide) rfl
    have e4 := hfix 4 _ (by decide) rfl
    have e5 := hfix 5 _ (by decide) rfl
    have e6 := hfix 6 _ (by decide) rfl
    have e7 := hfix 7 _ (by decide) rfl
    have e10 := hfix 10 _ (by decide) rfl
    have e11 := hfix 11 _ (by decide) rfl
    have h9 := hR.own2 (hall 9 rfl (by decide))
    have h12 := hR.st2 (hall 12 rfl (by decide))
    obtain ⟨g9, cap9, e9, _⟩ := h9.form (by omega)
    rw [e9] at h9 h12
    have kk := hR.kp
    have kS : ∀ b, (b = N ∨ (Value.slice LA r.list.length Lc).ownBlock = some b) → w.heap.size ≤ b := fun b hb => by
      rcases hb with rfl | hb
      · exact hN
      · exact (HOL.out b hb).1
    simp only [putList_cons, putList_nil, e0, e1, e2, e3, e4, e5, e6, e7, e10, e11]
    have HIY := Lib.hid (HIX.out.kp kk (fun h => by have := kS _ h; omega))
    have HBY := Lib.hid h12
    have HRY := Lib.hid h9
    have HKY : Hid (Kp (fun b => b = I ∨ w.heap.size ≤ b) W Y) := Lib.hid ((HKX.out.mono (fun b hb => .inl hb)).trans kk (fun b hb _ => .inr (kS b hb)))
    have HSDY : Hid (∀ i (h : i < (r.list ++ [(r.next, dt)]).length) d, (ds ++ [.slice dA dt.length dc])[i]? = some d → Sl (fun b => b ≠ N) Y d (bytesV (r.list ++ [(r.next, dt)])[i].2)) := Lib.hid fun i hi d hd => by
      rw [List.length_append, List.length_singleton] at hi
      by_cases hik : i < r.list.length
      · rw [List.getElem?_append_left (by rw [HDS.out]; exact hik)] at hd
        rw [List.getElem_append_left hik]
        exact ((HSD.out i hik d hd).kp kk (fun b hb _ hs => by rcases hs with hs | hs; exact hb.1.2 hs; exact hb.2 hs)).mono (fun b hb _ => hb.1.2)
      · obtain rfl : i = r.list.length := by omega
        rw [List.getElem?_append_right (by rw [HDS.out]; omega), HDS.out, Nat.sub_self] at hd
        simp at hd
        subst hd
        rw [List.getElem_append_right (by omega)]
        simp only [Nat.sub_self, List.getElem_singleton]
        exact (HSX.out.kp kk (fun b hb _ hs => by have := kS b hs; have := hb.1; omega)).mono (fun b hb _ => by have := hb.1; omega)
    obtain ⟨b0, b1, b2⟩ := recs3 h12
    have g0 := h12.frozen 0
    have hlY := h12.lt
    clear hR h9 h12 kk e0 e1 e2 e3 e4 e5 e6 e7 e9 e10 e11 hall hfix
    go_simp
    go_wp2_with fail
    have ew : (r.next : Int) + 1 = ((r.next + 1 : Nat) : Int) := by omega
    have kN : Kp (fun b => b = N) Y (Y.setCell ⟨N, 0, none⟩ (.int .u32 ((r.next + 1 : Nat) : Int))) := Kp.set_ (S := fun b => b = N) (Kp.refl _ Y) (.inl rfl) _
    have HF : Hid (DoPost w N { r with next := r.next + 1, list := r.list ++ [(r.next, dt)] } (fun b => b = I) (fun u => Blk u I 36 #[.int .u32 r.next]) W (Y.setCell ⟨N, 0, none⟩ (.int .u32 ((r.next + 1 : Nat) : Int)))) := Lib.hid (by
      have hrow' : Y.ownsRow w.heap.size 119 2 (.slice (some ⟨g9, 0, none⟩) (r.list.length + 1) cap9) (r.list ++ [(r.next, dt)]).length (entV (r.list ++ [(r.next, dt)]) (ds ++ [.slice dA dt.length dc])) := by
        rw [entV_snoc _ _ _ _ HDS.out, List.length_append, List.length_singleton, HXS.out]
        exact HRY.out
      refine ⟨⟨_, HBY.out.set_ 0 _, (entsR_row (by rw [List.length_append, List.length_append, HDS.out]; rfl) hrow' (fun b hb => own_ne HRY.out HBY.out (by decide) hb) HSDY.out).kp kN (fun b hb _ h => hb h)⟩, HKY.out.trans kN (fun b hb _ => .inr (by omega)), HIY.out.kp kN (by omega)⟩)
    rw [ew]
    go_ret
    exact ⟨rfl, HF.out⟩

/-- What a record store is behind an entry more. -/
def Rc.added (r : Rc) (dt : List UInt8) : Rc := { next := r.next + 1, ver := r.ver + 1, list := r.list ++ [(r.next, dt)] }
theorem OkFrom.snoc : ∀ {l : List (Nat × List UInt8)} {nx b : Nat} {d : List UInt8}, OkFrom nx b l → b < nx → d.length ≤ 512 → OkFrom (nx + 1) b (l ++ [(nx, d)])
  | [], nx, b, d, _, hb, hd => ⟨hb, by omega, hd, trivial⟩
  | x :: l, nx, b, d, h, _, hd => ⟨h.1, by have := h.2.1; omega, h.2.2.1, OkFrom.snoc h.2.2.2 h.2.1 hd⟩
theorem RcOk.added {r : Rc} (h : RcOk r) {dt : List UInt8} (hd : dt.length ≤ 512) (hn : r.next < 4294967295) (hv : r.ver < 4294967295) (hl : r.list.length < 64) : RcOk (r.added dt) :=
  ⟨⟨by show 1 ≤ r.next + 1; omega, by show r.next + 1 < 4294967296; omega⟩, by show r.ver + 1 < 4294967296; omega, OkFrom.snoc h.list (by have := h.next.1; omega) hd, by show (r.list ++ [(r.next, dt)]).length ≤ 64; rw [List.length_append, List.length_singleton]; omega⟩

set_option maxRecDepth 100000 in
set_option maxHeartbeats 1000000 in
theorem Add_any (w : World) (s p pb pw g m : Nat) (B B1 : BS) (h : StoreAt w s p pb pw g m B) (suite name : ByteArray) (h1 : nameB suite = true) (h2 : nameB name = true) (r : Rc) (hr : RcOk r) (a b : Nat) (hm : idxFind B.idx (keyS suite name) = some (placeV a b ⟨(rcB r).toArray⟩))
    (dt : List UInt8) (hdt : dt.length ≤ 512) (hn : r.next < 4294967295) (hv : r.ver < 4294967295) (hl : r.list.length < 64) (dv : Value) (okd : Nat → Prop) (hdv : Sl okd w dv (bytesV dt))
    (hlen : (rcB (r.added dt)).length ≤ 4096) (er : Nat) (hc : CommitC s p pb pw g m B B1 (keyS suite name) (rcB (r.added dt)) er) :
    Calls Tryz.prog 33 #[.pointer (some ⟨s, 0, none⟩), .string suite, .string name, dv] w fun e w' => e = .returned (.tuple #[.int .u32 (if er = 0 then (r.next : Int) else 0), .int .i64 er]) ∧ StoreAt w' s p pb pw g m B1 ∧ Kp (fun k => k = pb ∨ k = s ∨ k = g ∨ k = m) w w' := by
  obtain ⟨dA, dc, rfl, _⟩ := hdv.form
  rw [bytesV_length] at hdv ⊢
  obtain ⟨l1, l2, l3, l4, l5, l6⟩ := h.lts
  obtain ⟨W, hW, HK, HST, HD, HI, HSL⟩ : ∃ W, (w.alloc (.cells #[.slice dA dt.length dc] 31)).alloc (.cells #[.int .u32 0] 36) = W ∧ Hid (Kp (fun _ => False) w W) ∧ Hid (StoreAt W s p pb pw g m B) ∧ Hid (Blk W w.heap.size 31 #[.slice dA dt.length dc]) ∧ Hid (Blk W (w.heap.size + 1) 36 #[.int .u32 0]) ∧ Hid (Sl (fun b => b < w.heap.size) W (.slice dA dt.length dc) (bytesV dt)) := by
    have k : Kp (fun _ => False) w ((w.alloc (.cells #[.slice dA dt.length dc] 31)).alloc (.cells #[.int .u32 0] 36)) := ((Kp.refl _ w).alloc _).alloc _
    exact ⟨_, rfl, Lib.hid k, Lib.hid (h.below k.below), Lib.hid ((Blk.new _ _ _).alloc _), Lib.hid (Blk.at_top (by simp)), Lib.hid ((hdv.mono (ok' := fun b => b < w.heap.size) (fun b _ hb => hb)).kp k (fun _ _ _ x => x))⟩
  have hzI : w.heap.size + 1 < W.heap.size := HI.out.lt
  have hnm := nameB_size h1
  have HCH := Lib.hid (change_ok W s p pb pw g m B B1 HST.out suite name h1 h2 r hr a b hm 59 #[.pointer (some ⟨w.heap.size, 0, none⟩), .pointer (some ⟨w.heap.size + 1, 0, none⟩)] { r with next := r.next + 1, list := r.list ++ [(r.next, dt)] } (hr.added hdt hn hv hl) (fun b => b = w.heap.size + 1) (fun u => Blk u (w.heap.size + 1) 36 #[.int .u32 r.next])
    (fun k hk => by omega) (enters_of Tryz.func59 (by kernel_rfl) rfl)
    (fun W' N lv hw hN hb he => addDo_ok W W' hw N w.heap.size (w.heap.size + 1) hN hzI (by omega) (by omega) r hn hl lv hb he dA dt hdt dc ((HSL.out.kp hw (fun _ _ _ x => x)).mono (fun b hb _ => ⟨by omega, by omega⟩)) (HD.out.kp hw (fun x => x)) (HI.out.kp hw (fun x => x)))
    (fun W' W'' hk hq => hq.kp hk (by omega)) hlen er hc)
  clear h h1 h2 hr hm hdv hlen hc
  go_enter Tryz.func33, Tryz.ntmps33
  go_wp2_with fail
  refine HCH.out.mono ?_
  rintro e w2 ⟨rfl, hst, hq, hk⟩
  have HS2 := Lib.hid hst
  have HK2 : Hid (Kp (fun k => k = pb ∨ k = s ∨ k = g ∨ k = m) w w2) := Lib.hid ((HK.out.mono (fun _ x => x.elim)).trans hk (fun b hb hlt => by rcases hb with hb | hb; omega; exact hb))
  have j0 : w2.cell? ⟨w.heap.size + 1, 0, none⟩ = some (.int .u32 r.next) := hq.cell 0
  clear hst hq hk
  by_cases her : er = 0
  · subst her
    go_wp2_with fail
    go_ret2
    exact ⟨rfl, HS2.out, HK2.out⟩
  · have t1 : ((er : Int) != 0) = true := by rw [bne_iff_ne]; omega
    have HER := Lib.hid her
    clear her
    go_wp2_with fail
    go_ret2
    exact ⟨by first | rfl | (simp only [if_neg HER.out]; rfl), HS2.out, HK2.out⟩
end Go.Proofs.YtnaphhfmccbamaaGreatDoor

namespace Go.Proofs.YtnaphhfmccbamaaGreatDoor
open Go.RowKit

structure AdR (X : World) (tup : Value) (PW : World → Prop) (L : Nat → Prop) (V : Nat → Value) (W : World) : Prop where
  pre : ¬ L 9 → Kp (fun _ => False) X W
  post : L 9 → V 9 = tup ∧ PW W

set_option maxRecDepth 100000 in
set_option maxHeartbeats 1000000 in
theorem NAdd_ok (w : World) (v : Nat) (s p pb pw g m : Nat) (B1 B2 : BS) (suite : ByteArray) (lv : Value) (S1 : Nat → Prop) (hs : nameB suite = true) (r : Rc) (hr : RcOk r) (a b : Nat) (hm : idxFind B1.idx (keyS suite dataS) = some (placeV a b ⟨(rcB r).toArray⟩))
    (HO : Calls Tryz.prog 32 #[.pointer (some ⟨v, 0, none⟩), .bool true] w fun e w' => ∃ n ver A k c, e = .returned (.tuple #[recT n ver A k c, .int .i64 0]) ∧ n = r.next ∧ StoreAt w' s p pb pw g m B1 ∧ Blk w' v 63 #[.pointer (some ⟨s, 0, none⟩), .string suite, lv] ∧ Kp S1 w w')
    (dt : List UInt8) (hdt : dt.length ≤ 512) (hn : r.next ≤ 2147483647) (hv : r.ver < 4294967295) (hl : r.list.length < 64) (dv : Value) (okd : Nat → Prop) (hdv : Sl okd w dv (bytesV dt)) (hokd : ∀ b, okd b → ¬ S1 b)
    (hlen : (rcB (r.added dt)).length ≤ 4096) (hc : CommitC s p pb pw g m B1 B2 (keyS suite dataS) (rcB (r.added dt)) 0) :
    Calls Tryz.prog 17 #[.pointer (some ⟨v, 0, none⟩), dv] w fun e w' => e = .returned (.tuple #[.int .i32 r.next, .int .i64 0]) ∧ StoreAt w' s p pb pw g m B2 ∧ Kp (fun k => S1 k ∨ k = pb ∨ k = s ∨ k = g ∨ k = m) w w' := by
  obtain ⟨dA, dc, rfl, _⟩ := hdv.form
  rw [bytesV_length] at hdv ⊢
  have HH := Lib.hid HO
  have HDV := Lib.hid hdv
  have HOK := Lib.hid hokd
  have HAD : Hid (∀ W okd, StoreAt W s p pb pw g m B1 → Sl okd W (.slice dA dt.length dc) (bytesV dt) → Calls Tryz.prog 33 #[.pointer (some ⟨s, 0, none⟩), .string suite, .string dataS, .slice dA dt.length dc] W fun e w' => e = .returned (.tuple #[.int .u32 r.next, .int .i64 0]) ∧ StoreAt w' s p pb pw g m B2 ∧ Kp (fun k => k = pb ∨ k = s ∨ k = g ∨ k = m) W w') := Lib.hid fun W okd hW hd => by
    have := Add_any W s p pb pw g m B1 B2 hW suite dataS hs dataS_ok r hr a b hm dt hdt (by omega) hv hl _ okd hd hlen 0 hc
    simpa using this
  have t1 : decide (2147483647 < (r.next : Int)) = false := decide_eq_false (by omega)
  have tw : IntKind.i32.wrap (r.next : Int) = r.next := by rw [IntKind.wrap_i32]; omega
  clear HO hdv hokd hs hr hm hc hlen
  go_enter Tryz.func17, Tryz.ntmps17
  go_wp2_with fail
  refine HH.out.mono ?_
  rintro e w1 ⟨n, ver, A, k, c, rfl, rfl, hst, hbl, hk⟩
  unfold recT
  have kx : Kp (fun _ => False) w1 (w1.alloc (.cells #[.int .u32 r.next, .int .u32 ver, .slice A k c] 39)) := (Kp.refl _ w1).alloc _
  obtain ⟨X, hX, HKX, HSX, HBX, HDX⟩ : ∃ X, w1.alloc (.cells #[.int .u32 r.next, .int .u32 ver, .slice A k c] 39) = X ∧ Hid (Kp S1 w X) ∧ Hid (StoreAt X s p pb pw g m B1) ∧ Hid (Blk X v 63 #[.pointer (some ⟨s, 0, none⟩), .string suite, lv]) ∧ Hid (Sl okd X (.slice dA dt.length dc) (bytesV dt)) :=
    ⟨_, rfl, Lib.hid (hk.trans kx (fun _ x _ => x.elim)), Lib.hid (hst.below kx.below), Lib.hid (hbl.kp kx (fun x => x)), Lib.hid ((HDV.out.kp hk (fun b hb _ => HOK.out b hb)).kp kx (fun _ _ _ x => x))⟩
  have hbx : Blk X w1.heap.size 39 #[.int .u32 r.next, .int .u32 ver, .slice A k c] := by rw [← hX]; exact Blk.at_top rfl
  obtain ⟨x0, x1, x2⟩ := recs3 hbx
  clear hst hbl hk kx hbx
  go_wp2_with fail
  clear hX
  refine region_parts_all (by kernel_rfl) (fun j => [some (Value.pointer (some ⟨v, 0, none⟩)), some (.pointer (some ⟨v, 0, none⟩)), some (.pointer (some ⟨v, 0, none⟩)), some (.pointer (some ⟨s, 0, none⟩)), some (.pointer (some ⟨v, 0, none⟩)), some (.pointer (some ⟨v, 0, none⟩)), some (.pointer (some ⟨v, 1, none⟩)), some (.string suite), some (.slice dA dt.length dc), none, some (.tuple #[.int .u32 r.next, .int .i64 0]), some (.int .u32 r.next), some (.int .i64 0), some (.int .u32 r.next), some (.int .i64 0)].getD j none)
    (AdR X (.tuple #[.int .u32 r.next, .int .i64 0]) (fun W => StoreAt W s p pb pw g m B2 ∧ Kp (fun k => k = pb ∨ k = s ∨ k = g ∨ k = m) X W)) (by kernel_rfl) ?h0 ?hops ?hend
  case h0 => exact fun V => ⟨fun _ => (Kp.refl _ X).drew, fun h => h.elim⟩
  case hops =>
    refine ⟨?_, ?_, ?_, ?_, ?_, ?_, ?_, ?_, ?_, ?_, ?_, ?_, ?_, ?_, ?_, trivial⟩
    all_goals intro L V b Y hL hF hR K hK
    · have q1 := hL.old_ 0 (by kernel_rfl)
      simp at q1
      go_simp
      exact hK _ hR
    · have q1 := hL.depv hF 0 23 _ rfl (by kernel_rfl)
      go_simp
      exact hK _ hR
    · have q1 := hL.depv hF 1 24 _ rfl (by kernel_rfl)
      go_simp
      exact hK _ hR
    · have q1 := hL.depv hF 2 25 _ rfl (by kernel_rfl)
      have z0 : Y.cell? ⟨v, 0, none⟩ = some (.pointer (some ⟨s, 0, none⟩)) := (HBX.out.kp (hR.pre (hL.notn 9 (by kernel_rfl))) (fun x => x)).cell 0
      go_simp
      exact hK _ hR
    · have q1 := hL.old_ 0 (by kernel_rfl)
      simp at q1
      go_simp
      exact hK _ hR
    · have q1 := hL.depv hF 4 27 _ rfl (by kernel_rfl)
      go_simp
      exact hK _ hR
    · have q1 := hL.depv hF 5 28 _ rfl (by kernel_rfl)
      go_simp
      exact hK _ hR
    · have q1 := hL.depv hF 6 29 _ rfl (by kernel_rfl)
      have z0 : Y.cell? ⟨v, 1, none⟩ = some (.string suite) := (HBX.out.kp (hR.pre (hL.notn 9 (by kernel_rfl))) (fun x => x)).cell 1
      go_simp
      exact hK _ hR
    · have q1 := hL.old_ 1 (by kernel_rfl)
      simp at q1
      go_simp
      exact hK _ hR
    · have q1 := hL.depv hF 3 26 _ rfl (by kernel_rfl)
      have q2 := hL.depv hF 7 30 _ rfl (by kernel_rfl)
      have q3 := hL.depv hF 8 31 _ rfl (by kernel_rfl)
      have hp := hR.pre hL.freshn
      have hc := HAD.out Y okd (HSX.out.below hp.below) (HDX.out.kp hp (fun _ _ _ x => x))
      go_simp
      refine hc.mono ?_
      rintro e w' ⟨rfl, hst, hk⟩
      exact hK _ _ ⟨fun h => absurd (Or.inr rfl) h, fun _ => ⟨upd_same _ _ _, hst, (hp.mono (fun _ x => x.elim)).trans hk (fun _ x _ => x)⟩⟩
    · have q1 := hL.dep 9 32 (by kernel_rfl)
      have e9 : V 9 = .tuple #[.int .u32 r.next, .int .i64 0] := (hR.post (hL.isn 9 rfl (by kernel_rfl))).1
      rw [e9] at q1
      go_simp
      exact hK _ hR
    · have q1 := hL.depv hF 10 22 _ rfl (by kernel_rfl)
      go_simp
      exact hK _ hR
    · have q1 := hL.depv hF 10 22 _ rfl (by kernel_rfl)
      go_simp
      exact hK _ hR
    · have q1 := hL.depv hF 11 33 _ rfl (by kernel_rfl)
      go_simp
      exact hK _ hR
    · have q1 := hL.depv hF 12 34 _ rfl (by kernel_rfl)
      go_simp
      exact hK _ hR
  case hend =>
    intro L V Y hall hfix hR
    have e0 := hfix 0 _ (by decide) rfl
    have e1 := hfix 1 _ (by decide) rfl
    have e2 := hfix 2 _ (by decide) rfl
    have e3 := hfix 3 _ (by decide) rfl
    have e4 := hfix 4 _ (by decide) rfl
    have e5 := hfix 5 _ (by decide) rfl
    have e6 := hfix 6 _ (by decide) rfl
    have e7 := hfix 7 _ (by decide) rfl
    have e8 := hfix 8 _ (by decide) rfl
    have e10 := hfix 10 _ (by decide) rfl
    have e11 := hfix 11 _ (by decide) rfl
    have e12 := hfix 12 _ (by decide) rfl
    have e13 := hfix 13 _ (by decide) rfl
    have e14 := hfix 14 _ (by decide) rfl
    obtain ⟨_, hst, hk⟩ := hR.post (hall 9 rfl (by decide))
    have HS := Lib.hid hst
    have HK : Hid (Kp (fun k => S1 k ∨ k = pb ∨ k = s ∨ k = g ∨ k = m) w Y) := Lib.hid ((HKX.out.mono (fun _ x => .inl x)).trans hk (fun b hb _ => .inr hb))
    simp only [putList_cons, putList_nil, e0, e1, e2, e3, e4, e5, e6, e7, e8, e10, e11, e12, e13, e14]
    obtain ⟨v9, hv9⟩ : ∃ x, V 9 = x := ⟨_, rfl⟩
    rw [hv9]
    clear hR hst hk e0 e1 e2 e3 e4 e5 e6 e7 e8 e10 e11 e12 e13 e14 hall hfix hv9
    go_simp
    go_wp2
    go_ret2
    exact ⟨rfl, HS.out, HK.out⟩

/-- open(true) where the record store isn't there: it is made. -/
theorem open_new (w : World) (v : Nat) (s p pb pw g m : Nat) (B B1 : BS) (h : StoreAt w s p pb pw g m B) (suite : ByteArray) (lv : Value) (hb : Blk w v 63 #[.pointer (some ⟨s, 0, none⟩), .string suite, lv]) (hvs : v ≠ pb ∧ v ≠ s ∧ v ≠ g ∧ v ≠ m) (hs : nameB suite = true) (hm : idxFind B.idx (keyS suite dataS) = none) (n : Nat) (hn : n < 8) (hN : NamesC s p pb pw g m B suite n)
    (hc : CommitC s p pb pw g m B B1 (keyS suite dataS) (rcB rc0) 0) :
    Calls Tryz.prog 32 #[.pointer (some ⟨v, 0, none⟩), .bool true] w fun e w' => ∃ n ver A k c, e = .returned (.tuple #[recT n ver A k c, .int .i64 0]) ∧ n = rc0.next ∧ StoreAt w' s p pb pw g m B1 ∧ Blk w' v 63 #[.pointer (some ⟨s, 0, none⟩), .string suite, lv] ∧ Kp (fun b => b = pb ∨ b = s ∨ b = g ∨ b = m) w w' := by
  obtain ⟨l1, l2, l3, l4, l5, l6⟩ := h.lts
  refine (open_gen w v _ suite lv hb true 0 (fun b => b = pb ∨ b = s ∨ b = g ∨ b = m) (fun b hb => by omega) (fun n ver A k c W w' => n = 1 ∧ StoreAt w' s p pb pw g m B1) (fun W hW => ?_)).mono ?_
  · refine (Open_new W s p pb pw g m B B1 (h.below hW.below) suite dataS hs dataS_ok hm n hn hN hc).mono ?_
    rintro e w' ⟨rfl, hst, hk⟩
    exact ⟨1, 0, none, 0, 0, rfl, ⟨rfl, hst⟩, hk⟩
  · rintro e w' ⟨n, ver, A, k, c, W0, w1, rfl, h1, ⟨hn1, hst⟩, h2, h3, h4⟩
    have hv := hb.lt
    exact ⟨n, ver, A, k, c, rfl, hn1, hst.kp h3 (by omega) (by omega) (by omega) (by omega) (by omega) (by omega), ((hb.kp h1 (fun x => x)).kp h2 (fun hx => by omega)).kp h3 (by omega), ((h1.mono (fun _ x => x.elim)).trans h2 (fun _ x _ => x)).trans h3 (fun b hb hlt => by omega)⟩
end Go.Proofs.YtnaphhfmccbamaaGreatDoor
