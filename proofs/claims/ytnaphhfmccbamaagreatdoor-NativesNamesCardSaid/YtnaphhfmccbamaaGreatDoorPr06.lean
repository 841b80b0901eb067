/- Contract of rms.Parse at the bytes of a record store that may be. Maps keyed by strings, read as lists of pairs, for every walk of this seat. Contracts of package wear (layer 7): opens, erases, least at ints, Next, Free. -/
import Derived.Test.YtnaphhfmccbamaaGreatDoorPr05
import Derived.Test.YtnaphhfmccbamaaGreatDoorPr01
import Derived.Maps.OwnSet
namespace Go.Proofs.YtnaphhfmccbamaaGreatDoor
open Go.RowKit

def entV : List (Nat × List UInt8) → List Value → List Value
  | x :: l, d :: ds => .int .u32 x.1 :: d :: entV l ds
  | _, _ => []
theorem entV_snoc : ∀ (l : List (Nat × List UInt8)) (ds : List Value) (x : Nat × List UInt8) (d : Value), ds.length = l.length → entV (l ++ [x]) (ds ++ [d]) = entV l ds ++ [.int .u32 x.1, d]
  | [], [], _, _, _ => rfl
  | _ :: l, _ :: ds, x, d, h => by simp only [List.cons_append, entV]; rw [entV_snoc l ds x d (by simpa using h)]
theorem entV_get : ∀ (l : List (Nat × List UInt8)) (ds : List Value) (_ : ds.length = l.length) (i : Nat) (hi : i < l.length), (entV l ds)[i * 2]? = some (.int .u32 l[i].1) ∧ (entV l ds)[i * 2 + 1]? = ds[i]?
  | _ :: l, _ :: ds, h, 0, _ => by simp [entV]
  | y :: l, d :: ds, h, i + 1, hi => by
    have ih := entV_get l ds (by simpa using h) i (by simpa using hi)
    have e : ∀ j, (entV (y :: l) (d :: ds))[(i + 1) * 2 + j]? = (entV l ds)[i * 2 + j]? := fun j => by
      show (Value.int .u32 y.1 :: d :: entV l ds)[(i + 1) * 2 + j]? = _
      rw [show (i + 1) * 2 + j = (i * 2 + j) + 2 by omega]
      rfl
    have e0 := e 0
    simp only [Nat.add_zero] at e0
    rw [e0, e 1]
    simpa using ih
/-- The entries l in a row of the call's own from block base on; their data in blocks that are ok. -/
structure EntsO (ok : Nat → Prop) (base : Nat) (w : World) (lv : Value) (l : List (Nat × List UInt8)) : Prop where
  out : ∃ ds : List Value, ds.length = l.length ∧ w.ownsRow base 119 2 lv l.length (entV l ds) ∧ ∀ i (h : i < l.length) d, ds[i]? = some d → Sl (fun b => ok b ∧ lv.ownBlock ≠ some b) w d (bytesV l[i].2)
section
variable {ok ok' S : Nat → Prop} {base : Nat} {w w' : World} {lv : Value} {l : List (Nat × List UInt8)}
theorem EntsO.nil (ok : Nat → Prop) (base : Nat) (w : World) : EntsO ok base w (.slice none 0 0) [] := ⟨[], rfl, World.ownsRow_nil w _ _ 2, fun i h => absurd h (by simp)⟩
theorem EntsO.own_le (h : EntsO ok base w lv l) {b : Nat} (hb : lv.ownBlock = some b) : base ≤ b ∧ b < w.heap.size := by
  obtain ⟨ds, _, h, _⟩ := h.out
  rcases h.2 with ⟨rfl, _⟩ | ⟨g, cap, cur, rfl, a2, a3, _⟩
  · cases hb
  · have hb' : some g = some b := hb
    injection hb' with hb'
    have := Blk.lt (t := 119) a3
    omega
theorem EntsO.kp (h : EntsO ok base w lv l) (k : Kp S w w') (h1 : ∀ b, base ≤ b → b < w.heap.size → ¬ S b) (h2 : ∀ b, ok b → b < w.heap.size → ¬ S b) : EntsO ok base w' lv l := by
  have hle := fun {b} => h.own_le (b := b)
  obtain ⟨ds, hd, ho, hs⟩ := h.out
  exact ⟨ds, hd, ownsRow_kp ho k (fun b hb => h1 b (hle hb).1 (hle hb).2), fun i hi d hdi => (hs i hi d hdi).kp k (fun b hb => h2 b hb.1)⟩
theorem EntsO.mono (h : EntsO ok base w lv l) {base' : Nat} (hb : base' ≤ base) (hs : ∀ b, ok b → b < w.heap.size → ok' b) : EntsO ok' base' w lv l := by
  obtain ⟨ds, hd, ho, hsl⟩ := h.out
  exact ⟨ds, hd, ownsRow_lo ho hb, fun i hi d hdi => (hsl i hi d hdi).mono (fun b hb hlt => ⟨hs b hb.1 hlt, hb.2⟩)⟩
theorem EntsO.reads (h : EntsO ok base w lv l) (hs : ∀ b, base ≤ b → b < w.heap.size → ok' b) (hk : ∀ b, ok b → b < w.heap.size → ok' b) : EntsR ok' w lv l := by
  obtain ⟨ds, hd, ho, hsl⟩ := h.out
  rcases ho.2 with ⟨rfl, h0⟩ | ⟨g, cap, cur, rfl, a2, a3, a4, _, _, ht⟩
  · obtain rfl : l = [] := List.eq_nil_of_length_eq_zero h0
    exact EntsR.nil _ _
  · refine ⟨_, _, rfl, a4, fun _ => ⟨g, rfl, hs g a2 (Blk.lt (t := 119) a3), Blk.lt (t := 119) a3, fun i hi => ?_⟩⟩
    have q := entV_get l ds hd i hi
    rw [← ht] at q
    rw [List.getElem?_take_of_lt (by omega), List.getElem?_take_of_lt (by omega)] at q
    have hdi : i < ds.length := by omega
    rw [List.getElem?_eq_getElem hdi] at q
    refine ⟨ds[i], ?_, ?_, (hsl i hi _ (List.getElem?_eq_getElem hdi)).mono (fun b hb hlt => hk b hb.1 hlt)⟩
    · rw [cell_of_row w g _ cur _ (0, 0) a3, ← Array.getElem?_toList]; exact q.1
    · rw [cell_of_row w g _ cur _ (0, 0) a3, ← Array.getElem?_toList]; exact q.2
end
theorem info_entry : (Tryz.prog.info? 119).map (fun i => (i.zero, i.size, i.bytes)) = some (some (.agg #[.int .u32 0, .slice none 0 0]), 2, 32) := by kernel_rfl

theorem reads2 {W : World} {n : Nat} {t : TypeId} {a b : Value} (h : Blk W n t [a, b].toArray) : Reads W W.heap.size 2 (some ⟨n, 0, none⟩) 1 [a, b] := by
  refine ⟨rfl, fun _ => ⟨_, rfl, h.lt, fun j u hj => ?_⟩⟩
  rw [addr_add0, h.cell j, ← hj]
  simp
/-- What the region of Parse keeps beside AppX: the reader's bytes, and what was read. -/
structure ParR (X : World) (w0 base N5 rb : Nat) (nx vr id : Nat) (d rest : List UInt8) (lv : Value) (k : Nat) (xs : List Value) (L : Nat → Prop) (V : Nat → Value) (W : World) : Prop where
  app : AppX (fun b => b = rb) X base N5 39 119 2 (fun v => #[.int .u32 nx, .int .u32 vr, v]) lv k xs (fun dv => [.int .u32 id, dv]) 7 9 10 12 L V W
  r0 : ¬ L 5 → RdAt (fun b => b < w0) W rb (putL d.length 2 2 ++ (d ++ rest))
  r1 : L 5 → ¬ L 7 → RdAt (fun b => b < w0) W rb (d ++ rest)
  r2 : L 7 → RdAt (fun b => b < w0) W rb rest
  v5 : L 5 → V 5 = .int .u32 d.length
  v7 : L 7 → Sl (fun b => X.heap.size ≤ b ∧ (L 10 → (V 10).ownBlock ≠ some b)) W (V 7) (bytesV d)
  v8 : L 8 → V 8 = .agg #[.int .u32 id, V 7]
  v10 : L 10 → (V 10).ownBlock = lv.ownBlock ∨ ∃ g, (V 10).ownBlock = some g ∧ X.heap.size ≤ g

section
variable {X : World} {w0 base N5 rb nx vr id : Nat} {d rest : List UInt8} {lv : Value} {k : Nat} {xs : List Value} {L : Nat → Prop} {V : Nat → Value} {W W' : World}
theorem ParR.step (h : ParR X w0 base N5 rb nx vr id d rest lv k xs L V W) (i : Nat) (h5 : 5 ≠ i) (h7 : 7 ≠ i) (h8 : 8 ≠ i) (v : Value) {S : Nat → Prop} (kk : Kp S W W') (hd : ∀ b, X.heap.size ≤ b → b < W.heap.size → (L 10 → (V 10).ownBlock ≠ some b) → ((L 10 ∨ 10 = i) → (upd V i v 10).ownBlock ≠ some b)) (hq : (L 10 ∨ 10 = i) → (upd V i v 10).ownBlock = lv.ownBlock ∨ ∃ g, (upd V i v 10).ownBlock = some g ∧ X.heap.size ≤ g) (s1 : ¬ S rb) (s2 : ∀ b, S b → b < X.heap.size ∧ w0 ≤ b)
    (a : AppX (fun b => b = rb) X base N5 39 119 2 (fun v => #[.int .u32 nx, .int .u32 vr, v]) lv k xs (fun dv => [.int .u32 id, dv]) 7 9 10 12 (fun j => L j ∨ j = i) (upd V i v) W') :
    ParR X w0 base N5 rb nx vr id d rest lv k xs (fun j => L j ∨ j = i) (upd V i v) W' := by
  have r : ∀ j, j ≠ i → ((L j ∨ j = i) ↔ L j) := fun j hj => ⟨fun h => h.resolve_right hj, .inl⟩
  have ok : ∀ b, b < w0 → b < W.heap.size → ¬ S b := fun b hb _ hs => by have := (s2 b hs).2; omega
  refine ⟨a, fun h1 => (h.r0 (fun x => h1 (.inl x))).kp kk s1 ok, fun h1 h2 => (h.r1 ((r _ h5).1 h1) (fun x => h2 (.inl x))).kp kk s1 ok, fun h1 => (h.r2 ((r _ h7).1 h1)).kp kk s1 ok, fun h1 => ?_, fun h1 => ?_, fun h1 => ?_, hq⟩
  · rw [upd_ne _ _ h5]; exact h.v5 ((r _ h5).1 h1)
  · rw [upd_ne _ _ h7]; exact ((h.v7 ((r _ h7).1 h1)).mono (fun b hb hlt => ⟨hb.1, hd b hb.1 hlt hb.2⟩)).kp kk (fun b hb _ hs => by have := (s2 b hs).1; have := hb.1; omega)
  · rw [upd_ne _ _ h8, upd_ne _ _ h7]; exact h.v8 ((r _ h8).1 h1)
theorem ParR.s5 (h : ParR X w0 base N5 rb nx vr id d rest lv k xs L V W) (l7 : ¬ L 7) (l8 : ¬ L 8) (l10 : ¬ L 10) (l12 : ¬ L 12) (hN : N5 ≠ rb) (ho : ∀ b, lv.ownBlock = some b → b ≠ rb) (hrb : rb < X.heap.size) (kk : Kp (fun b => b = rb) W W') (hr : RdAt (fun b => b < w0) W' rb (d ++ rest)) :
    ParR X w0 base N5 rb nx vr id d rest lv k xs (fun j => L j ∨ j = 5) (upd V 5 (.int .u32 d.length)) W' := by
  refine ⟨(h.app.callx l10 l12 hN ho (fun b hb => by subst hb; exact hrb) kk).put_ 5 _ (by decide) (by decide) (by decide) (fun h => absurd h (by decide)), fun h1 => absurd (Or.inr rfl) h1, fun _ _ => hr, fun h1 => absurd (h1.resolve_right (by decide)) l7, fun _ => upd_same _ _ _, fun h1 => absurd (h1.resolve_right (by decide)) l7, fun h1 => absurd (h1.resolve_right (by decide)) l8, fun h1 => absurd (h1.resolve_right (by decide)) l10⟩
theorem ParR.s7 (h : ParR X w0 base N5 rb nx vr id d rest lv k xs L V W) (l5 : L 5) (l8 : ¬ L 8) (l9 : ¬ L 9) (l10 : ¬ L 10) (l12 : ¬ L 12) (hN : N5 ≠ rb) (ho : ∀ b, lv.ownBlock = some b → b ≠ rb) (hrb : rb < X.heap.size) (kk : Kp (fun b => b = rb) W W') (hr : RdAt (fun b => b < w0) W' rb rest) (dv : Value) (hd : Sl (fun b => W.heap.size ≤ b) W' dv (bytesV d)) :
    ParR X w0 base N5 rb nx vr id d rest lv k xs (fun j => L j ∨ j = 7) (upd V 7 dv) W' := by
  have hs := h.app.kp.size
  refine ⟨(h.app.callx l10 l12 hN ho (fun b hb => by subst hb; exact hrb) kk).put_ 7 _ (by decide) (by decide) (by decide) (fun _ => ⟨l9, l10⟩), fun h1 => absurd (Or.inl l5) h1, fun _ h2 => absurd (Or.inr rfl) h2, fun _ => hr, fun h1 => ?_, fun _ => ?_, fun h1 => absurd (h1.resolve_right (by decide)) l8, fun h1 => absurd (h1.resolve_right (by decide)) l10⟩
  · rw [upd_ne _ _ (by decide)]; exact h.v5 (h1.resolve_right (by decide))
  · rw [upd_same]; exact hd.mono (fun b hb _ => ⟨Nat.le_trans hs hb, fun h10 => absurd (h10.resolve_right (by decide)) l10⟩)
theorem ParR.s8 (h : ParR X w0 base N5 rb nx vr id d rest lv k xs L V W) : ParR X w0 base N5 rb nx vr id d rest lv k xs (fun j => L j ∨ j = 8) (upd V 8 (.agg #[.int .u32 id, V 7])) W := by
  have r : ∀ j, j ≠ 8 → ((L j ∨ j = 8) ↔ L j) := fun j hj => ⟨fun h => h.resolve_right hj, .inl⟩
  refine ⟨h.app.put_ 8 _ (by decide) (by decide) (by decide) (fun h => absurd h (by decide)), fun h1 => h.r0 (fun x => h1 (.inl x)), fun h1 h2 => h.r1 ((r _ (by decide)).1 h1) (fun x => h2 (.inl x)), fun h1 => h.r2 ((r _ (by decide)).1 h1), fun h1 => ?_, fun h1 => ?_, fun _ => ?_, fun h1 => h.v10 ((r _ (by decide)).1 h1)⟩
  · rw [upd_ne _ _ (by decide)]; exact h.v5 ((r _ (by decide)).1 h1)
  · rw [upd_ne _ _ (by decide)]; exact (h.v7 ((r _ (by decide)).1 h1)).mono (fun b hb _ => ⟨hb.1, fun h10 => hb.2 ((r _ (by decide)).1 h10)⟩)
  · rw [upd_same, upd_ne _ _ (by decide)]
end
structure ParI (w : World) (N5 rb : Nat) (r : Rc) (k : Nat) (lv : Value) (wr : World) : Prop where
  kp : Kp (fun _ => False) w wr
  res : Blk wr w.heap.size 39 #[.int .u32 0, .int .u32 0, .slice none 0 0]
  rd : RdAt (fun b => b < w.heap.size) wr rb (entsB (r.list.drop k))
  bk : Blk wr N5 39 #[.int .u32 r.next, .int .u32 r.ver, lv]
  ents : EntsO (fun b => N5 < b) (N5 + 1) wr lv (r.list.take k)
theorem entsB_drop (l : List (Nat × List UInt8)) (k : Nat) (hk : k < l.length) : entsB (l.drop k) = putL l[k].1 4 4 ++ (putL l[k].2.length 2 2 ++ (l[k].2 ++ entsB (l.drop (k + 1)))) := by
  rw [List.drop_eq_getElem_cons hk]
  simp [entsB, entB]

set_option maxRecDepth 100000 in
set_option maxHeartbeats 4000000 in
theorem rmsParse_ok (r : Rc) (hr : RcOk r) (w : World) (ok : Nat → Prop) (v : Value) (hv : Sl ok w v (bytesV (rcB r))) :
    Calls Tryz.prog 90 #[v] w fun e w' => ∃ lv, e = .returned (.tuple #[rcV r lv, .int .i64 0]) ∧ EntsO (fun b => w.heap.size ≤ b) w.heap.size w' lv r.list ∧ Below w.heap.size w w' := by
  have HR := Lib.hid hr
  have h64 := hr.len
  have hn := hr.next.2
  have hvr := hr.ver
  have HLN := Lib.hid (rcB_length_le hr)
  obtain ⟨A, c, rfl, _⟩ := hv.form
  obtain ⟨n0, hn0⟩ : ∃ n, (bytesV (rcB r)).length = n := ⟨_, rfl⟩
  rw [hn0] at hv ⊢
  have HV := Lib.hid (hv.mono (ok' := fun b => b < w.heap.size) (fun b _ hb => hb))
  clear hv hr hn0
  go_enter Tryz.func90, Tryz.ntmps90
  go_wp2_with fail
  have HRD0 : Hid (RdAt (fun b => b < w.heap.size) ((w.alloc (.cells #[.int .u32 0, .int .u32 0, .slice none 0 0] 39)).alloc (.cells #[.slice A n0 c, .bool false] 206)) (w.heap.size + 1) (rcB r)) :=
    Lib.hid ⟨_, Blk.at_top (by simp), HV.out.kp (((Kp.refl (fun _ => False) w).alloc _).alloc _) (fun _ _ _ x => x)⟩
  have HK0 : Hid (Kp (fun _ => False) w ((w.alloc (.cells #[.int .u32 0, .int .u32 0, .slice none 0 0] 39)).alloc (.cells #[.slice A n0 c, .bool false] 206))) := Lib.hid (((Kp.refl _ w).alloc _).alloc _)
  have HB0 : Hid (Blk ((w.alloc (.cells #[.int .u32 0, .int .u32 0, .slice none 0 0] 39)).alloc (.cells #[.slice A n0 c, .bool false] 206)) w.heap.size 39 #[.int .u32 0, .int .u32 0, .slice none 0 0]) := Lib.hid ((Blk.new _ _ _).alloc _)
  have hlen1 := HLN.out
  have hle : (entsB r.list).length ≤ 33152 := by rw [rcB_length] at hlen1; omega
  have e1 : 256 ^ 4 = 4294967296 := by decide
  have hn' : r.next < 256 ^ 4 := by omega
  have hvr' : r.ver < 256 ^ 4 := by omega
  have h64' : r.list.length < 256 ^ 2 := by omega
  clear e1 hlen1 HV
  refine (next_ok r.next 4 (by omega) (by omega) hn' _ _ _ _ HRD0.out (by omega) (by simp; omega)).mono ?_
  rintro e w1 ⟨rfl, hr1, hk1⟩
  have HRD1 := Lib.hid hr1
  have HK1 : Hid (Kp (fun _ => False) w w1) := Lib.hid (HK0.out.trans hk1 (fun b hb hlt => by omega))
  have HB1 := Lib.hid (HB0.out.kp hk1 (by omega))
  clear hr1 hk1 HRD0 HK0 HB0
  go_wp2_with fail
  refine (next_ok r.ver 4 (by omega) (by omega) hvr' _ _ _ _ HRD1.out (by omega) (by simp; omega)).mono ?_
  rintro e w2 ⟨rfl, hr1, hk1⟩
  have HRD2 := Lib.hid hr1
  have HK2 : Hid (Kp (fun _ => False) w w2) := Lib.hid (HK1.out.trans hk1 (fun b hb hlt => by omega))
  have HB2 := Lib.hid (HB1.out.kp hk1 (by omega))
  have hz2 : w.heap.size + 1 < w2.heap.size := HRD2.out.lt
  clear hr1 hk1 HRD1 HK1 HB1
  go_wp2_with fail
  have kx : Kp (fun _ => False) w2 (w2.alloc (.cells #[.int .u32 r.next, .int .u32 r.ver, .slice none 0 0] 39)) := (Kp.refl _ w2).alloc _
  refine (next_ok r.list.length 2 (by omega) (by omega) h64' _ _ _ _ (HRD2.out.kp kx (fun x => x) (fun _ _ _ x => x)) (by omega) (by omega)).mono ?_
  rintro e w3 ⟨rfl, hr1, hk1⟩
  have HI : Hid (ParI w w2.heap.size (w.heap.size + 1) r 0 (.slice none 0 0) w3) := Lib.hid ⟨(HK2.out.trans kx (fun _ x _ => x)).trans hk1 (fun b hb hlt => by omega), (HB2.out.kp kx (fun x => x)).kp hk1 (by omega), hr1, (Blk.new _ _ _).kp hk1 (by omega), EntsO.nil _ _ _⟩
  clear hr1 hk1 HRD2 HK2 HB2 kx hn' hvr' h64'
  obtain ⟨N5, hN5⟩ : ∃ n, w2.heap.size = n := ⟨_, rfl⟩
  rw [hN5] at HI hz2
  obtain ⟨i0, hi, hy0, hy1, hy2⟩ := info_parts info_entry
  go_wp2_with fail
  obtain ⟨rb, hrb⟩ : ∃ n, w.heap.size + 1 = n := ⟨_, rfl⟩
  have hrb1 : w.heap.size < rb := by omega
  rw [hrb] at HI hz2 ⊢
  clear hN5 hrb
  go_loopw [6] (fun u wr => ∃ k : Nat, k ≤ r.list.length ∧ u = .int .u32 ((r.list.length - k : Nat) : Int) ∧ ∃ lv, Hid (ParI w N5 rb r k lv wr)) (fun u _ => (intOf u).toNat)
  case atStart => exact ⟨0, Nat.zero_le _, rfl, _, HI⟩
  case round =>
    obtain ⟨k, hk, rfl, lv, HP⟩ := hrel
    obtain ⟨bv, hbv, _⟩ := HP.out.rd.out
    have c1 : wr.cell? ⟨rb, 1, none⟩ = some (.bool false) := hbv.cell 1
    obtain ⟨m, hm⟩ : ∃ m, r.list.length - k = m := ⟨_, rfl⟩
    rw [hm]
    by_cases hlt : k < r.list.length
    · have t1 : decide (0 < m) = true := decide_eq_true (by omega)
      have HED := Lib.hid (entsB_drop r.list k hlt)
      obtain ⟨p1, p2, p3⟩ := HR.out.list.at_ hlt
      have hrl : (entsB (r.list.drop (k + 1))).length ≤ 40000 := by
        have h2 : (entsB (r.list.drop (k + 1))).length ≤ (entsB r.list).length := by
          have : ∀ (l : List (Nat × List UInt8)) j, (entsB (l.drop j)).length ≤ (entsB l).length := by
            intro l
            induction l with
            | nil => intro j; simp [entsB]
            | cons x l ih =>
              intro j
              cases j with
              | zero => simp
              | succ j => have := ih j; simp only [List.drop_succ_cons, entsB, List.length_append]; omega
          exact this _ _
        omega
      have HTK := Lib.hid (show r.list.take (k + 1) = r.list.take k ++ [r.list[k]] from List.take_succ_eq_append_getElem hlt)
      have HD0 := Lib.hid HP.out.rd
      rw [HED.out] at HD0
      obtain ⟨ID, hID⟩ : ∃ x, r.list[k].1 = x := ⟨_, rfl⟩
      obtain ⟨DT, hDT⟩ : ∃ x, r.list[k].2 = x := ⟨_, rfl⟩
      rw [show r.list[k] = (ID, DT) by rw [← hID, ← hDT]] at HTK
      rw [hID, hDT] at HD0
      rw [hID] at p2
      rw [hDT] at p3
      obtain ⟨rest, hrest⟩ : ∃ l, entsB (r.list.drop (k + 1)) = l := ⟨_, rfl⟩
      rw [hrest] at HD0 hrl
      have HRS := Lib.hid hrest
      have e1 : 256 ^ 4 = 4294967296 := by decide
      have hid4 : ID < 256 ^ 4 := by omega
      clear e1 hID hDT hrest p1 hbv
      go_wp2_with fail
      refine (next_ok ID 4 (by omega) (by omega) hid4 _ _ _ _ HD0.out (by omega) (by simp; omega)).mono ?_
      rintro e X ⟨rfl, hr1, hk1⟩
      have HRX := Lib.hid hr1
      have HKX : Hid (Kp (fun _ => False) w X) := Lib.hid (HP.out.kp.trans hk1 (fun b hb hlt => by omega))
      have HBX := Lib.hid (HP.out.bk.kp hk1 (by omega))
      have HSX := Lib.hid (HP.out.res.kp hk1 (by omega))
      have HEX : Hid (EntsO (fun b => N5 < b) (N5 + 1) X lv (r.list.take k)) := Lib.hid (HP.out.ents.kp hk1 (fun b hb _ => by omega) (fun b hb _ => by omega))
      clear hr1 hk1 c1 hid4
      go_wp2_with fail
      have hown := fun {b} => HEX.out.own_le (b := b)
      obtain ⟨ds, hds, hrow, hsl⟩ := HEX.out.out
      have hkl : (r.list.take k).length = k := by rw [List.length_take]; omega
      rw [hkl] at hrow
      have HSL := Lib.hid hsl
      have HDS := Lib.hid (hds.trans hkl)
      have hlX := HBX.out.lt
      obtain ⟨xs, hxs⟩ : ∃ l, entV (r.list.take k) ds = l := ⟨_, rfl⟩
      have HXS := Lib.hid hxs
      rw [hxs] at hrow
      have HOW : Hid (∀ b, lv.ownBlock = some b → N5 + 1 ≤ b ∧ b < X.heap.size) := Lib.hid fun b hb => hown hb
      obtain ⟨dl, hdl⟩ : ∃ n, DT.length = n := ⟨_, rfl⟩
      have HDL := Lib.hid hdl
      have hdl' : dl ≤ 512 := by omega
      have e2 : 256 ^ 2 = 65536 := by decide
      have hdl2 : DT.length < 256 ^ 2 := by omega
      have hdl3 : DT.length ≤ 512 := by omega
      have tw : IntKind.i64.wrap (dl : Int) = dl := by rw [IntKind.wrap_i64]; omega
      clear hds hkl hsl hxs hown e2 p3 hdl
      refine region_parts_all (by kernel_rfl) (fun j => [some (Value.pointer (some ⟨N5, 2, none⟩)), some lv, some (.int .u32 ID), some (.pointer (some ⟨rb, 0, none⟩)), some (.pointer (some ⟨rb, 0, none⟩)), none, some (.int .i64 dl), none, none, none, none, some (.pointer (some ⟨N5, 2, none⟩)), none].getD j none)
        (ParR X w.heap.size (N5 + 1) N5 rb r.next r.ver ID DT rest lv k xs) (by kernel_rfl) ?h0 ?hops ?hend
      case h0 =>
        intro V
        exact ⟨AppX.start hrow HBX.out V, fun _ => HRX.out.kp (Kp.refl (fun _ => False) X).drew (fun x => x) (fun _ _ _ x => x), fun h => h.elim, fun h => h.elim, fun h => h.elim, fun h => h.elim, fun h => h.elim, fun h => h.elim⟩
      case hops =>
        refine ⟨?_, ?_, ?_, ?_, ?_, ?_, ?_, ?_, ?_, ?_, ?_, ?_, ?_, trivial⟩
        all_goals intro L V b W hL hF hR K hK
        · have q1 := hL.old_ 5 (by kernel_rfl)
          simp at q1
          go_simp
          exact hK _ hR
        · have q1 := hL.depv hF 0 31 _ rfl (by kernel_rfl)
          have z1 : W.cell? ⟨N5, 2, none⟩ = some lv := (hR.app.st1 (hL.notn 12 (by kernel_rfl))).cell 2
          go_simp
          exact hK _ hR
        · have q1 := hL.old_ 7 (by kernel_rfl)
          simp at q1
          go_simp
          exact hK _ hR
        · have q1 := hL.old_ 4 (by kernel_rfl)
          simp at q1
          go_simp
          exact hK _ hR
        · have q1 := hL.old_ 4 (by kernel_rfl)
          simp at q1
          go_simp
          exact hK _ hR
        · have q1 := hL.depv hF 4 35 _ rfl (by kernel_rfl)
          have hc := next_ok DT.length 2 (by omega) (by omega) hdl2 _ W _ _ (hR.r0 hL.freshn) (by omega) (by simp; omega)
          go_simp
          refine hc.mono ?_
          rintro e w' ⟨rfl, hr1, hk1⟩
          exact hK _ _ (hR.s5 (hL.notn 7 (by kernel_rfl)) (hL.notn 8 (by kernel_rfl)) (hL.notn 10 (by kernel_rfl)) (hL.notn 12 (by kernel_rfl)) (by omega) (fun b hb => by have := HOW.out b hb; omega) (by omega) hk1 hr1)
        · have q1 := hL.dep 5 36 (by kernel_rfl)
          have e5 : V 5 = .int .u32 DT.length := hR.v5 (hL.isn 5 rfl (by kernel_rfl))
          rw [e5, HDL.out] at q1
          go_simp
          exact hK _ hR
        · have q1 := hL.depv hF 3 34 _ rfl (by kernel_rfl)
          have q2 := hL.depv hF 6 37 _ rfl (by kernel_rfl)
          have hc := data_ok DT rest W _ rb (hR.r1 (hL.isn 5 rfl (by kernel_rfl)) hL.freshn) (by omega) (by omega) (by omega)
          rw [HDL.out] at hc
          go_simp
          refine hc.mono ?_
          rintro e w' ⟨dv, rfl, hd1, hr1, hk1⟩
          exact hK _ _ (hR.s7 (hL.isn 5 rfl (by kernel_rfl)) (hL.notn 8 (by kernel_rfl)) (hL.notn 9 (by kernel_rfl)) (hL.notn 10 (by kernel_rfl)) (hL.notn 12 (by kernel_rfl)) (by omega) (fun b hb => by have := HOW.out b hb; omega) (by omega) hk1 hr1 dv hd1)
        · have q1 := hL.depv hF 2 33 _ rfl (by kernel_rfl)
          have q2 := hL.dep 7 38 (by kernel_rfl)
          have h8 := hR.s8
          obtain ⟨A7, c7, e7, _⟩ := (hR.v7 (hL.isn 7 rfl (by kernel_rfl))).form
          have e7' : V 7 = .slice A7 (bytesV DT).length c7 := e7
          rw [e7] at h8
          rw [e7', bytesV_length] at q2
          rw [bytesV_length] at h8
          go_simp
          exact hK _ _ h8
        · have q1 := hL.dep 8 39 (by kernel_rfl)
          obtain ⟨A7, c7, e7, _⟩ := (hR.v7 (hL.isn 7 rfl (by kernel_rfl))).form
          have e8 : V 8 = .agg #[.int .u32 ID, _] := hR.v8 (hL.isn 8 rfl (by kernel_rfl))
          rw [e8, e7] at q1
          have h9 := hR.step 9 (by decide) (by decide) (by decide) _ ((Kp.refl (fun _ => False) W).alloc _) (fun b _ _ h h1 => by rw [upd_ne _ _ (by decide)]; exact h (h1.resolve_right (by decide))) (fun h1 => hR.v10 (h1.resolve_right (by decide))) (fun x => x) (fun _ x => x.elim) (hR.app.alloc (by decide) (by decide) (by decide) (hL.notn 10 (by kernel_rfl)) (hL.notn 12 (by kernel_rfl)))
          rw [e7, bytesV_length] at h9
          rw [bytesV_length] at q1
          go_simp
          exact hK _ _ h9
        · have q1 := hL.depv hF 1 32 _ rfl (by kernel_rfl)
          have q2 := hL.dep 9 40 (by kernel_rfl)
          obtain ⟨n9, e9, hn9, hb9⟩ := hR.app.al (hL.isn 9 rfl (by kernel_rfl))
          have e9' : V 9 = .slice (some ⟨n9, 0, none⟩) 1 1 := e9
          rw [e9'] at q2
          obtain ⟨A7, c7, e7, _⟩ := (hR.v7 (hL.isn 7 rfl (by kernel_rfl))).form
          have ho := hR.app.own hL.freshn
          have hbk := hb9 hL.freshn
          have hr := reads2 hbk
          have hbs := hR.app.kp.size
          refine step_append_any _ rfl (.tmp 32) (.tmp 40) 37 rfl (N5 + 1) 119 i0 _ 2 32 Tryz.underlying37 hi hy0 hy1 hy2 rfl (by omega) lv k xs (by simp [Act.eval, q1]) ho W.heap.size (some ⟨n9, 0, none⟩) 1 1 _ (by simp [Act.eval, q2]) hr (by intro u hu; rw [e7] at hu; simp at hu; rcases hu with rfl | rfl <;> rfl) (by unfold maxLen; omega) (by omega) (by omega) ?_
          intro v' w' hown hg hob
          exact hK _ _ (hR.step 10 (by decide) (by decide) (by decide) _ (kp_of_grown hg) (fun b hb hlt _ _ => by rw [upd_same]; rcases hob with ho | ho <;> rw [ho]; (intro e; have := HOW.out b e; omega); (intro e; injection e with e; omega)) (fun _ => by rw [upd_same]; rcases hob with ho | ho; exact .inl ho; exact .inr ⟨_, ho, hbs⟩) (fun hb => by have := HOW.out _ hb.symm; omega) (fun b hb => by have := HOW.out _ hb.symm; omega) (hR.app.app (by decide) (by decide) (by decide) hL.freshn (hL.notn 12 (by kernel_rfl)) (fun b hb => by have := HOW.out b hb; omega) v' hg hown))
        · have q1 := hL.old_ 5 (by kernel_rfl)
          simp at q1
          go_simp
          exact hK _ hR
        · have q1 := hL.depv hF 11 42 _ rfl (by kernel_rfl)
          have q2 := hL.dep 10 41 (by kernel_rfl)
          have st := hR.app.st1 hL.freshn
          have z1 : W.cell? ⟨N5, 2, none⟩ = some lv := st.cell 2
          have f1 := st.frozen 2
          have ha := hR.app.store (by decide) (by decide) (by decide) (hL.isn 10 rfl (by kernel_rfl)) hL.freshn (by omega) 2 (fun u => rfl) undef
          have hs := hR.step 12 (by decide) (by decide) (by decide) _ (Kp.set_ (S := fun b => b = N5) (p := ⟨N5, 2, none⟩) (Kp.refl _ W) (.inl rfl) _) (fun b _ _ h h1 => by rw [upd_ne _ _ (by decide)]; exact h (h1.resolve_right (by decide))) (fun h1 => hR.v10 (h1.resolve_right (by decide))) (by omega) (fun b hb => by subst hb; omega) ha
          obtain ⟨g10, cap10, e10, _⟩ := (hR.app.own2 (hL.isn 10 rfl (by kernel_rfl))).form (by omega)
          have e10' : V 10 = .slice (some ⟨g10, 0, none⟩) (k + 1) cap10 := e10
          rw [e10'] at q2
          rw [e10] at hs
          clear ha
          go_simp
          exact hK _ _ hs
      case hend =>
        intro L V W hall hfix hR
        have e0 := hfix 0 _ (by decide) rfl
        have e1 := hfix 1 _ (by decide) rfl
        have e2 := hfix 2 _ (by decide) rfl
        have e3 := hfix 3 _ (by decide) rfl
        have e4 := hfix 4 _ (by decide) rfl
        have e6 := hfix 6 _ (by decide) rfl
        have e11 := hfix 11 _ (by decide) rfl
        have h7 := hR.v7 (hall 7 rfl (by decide))
        have h10 := hR.app.own2 (hall 10 rfl (by decide))
        have h12 := hR.app.st2 (hall 12 rfl (by decide))
        have hr2 := hR.r2 (hall 7 rfl (by decide))
        have kk := hR.app.kp
        have h10b := hR.v10 (hall 10 rfl (by decide))
        simp only [putList_cons, putList_nil, e0, e1, e2, e3, e4, e6, e11]
        obtain ⟨dv, hdv⟩ : ∃ v, mkV (fun j => [some (Value.pointer (some ⟨N5, 2, none⟩)), some lv, some (.int .u32 ID), some (.pointer (some ⟨rb, 0, none⟩)), some (.pointer (some ⟨rb, 0, none⟩)), none, some (.int .i64 dl), none, none, none, none, some (.pointer (some ⟨N5, 2, none⟩)), none].getD j none) V 7 = v := ⟨_, rfl⟩
        obtain ⟨lv', hlv'⟩ : ∃ v, mkV (fun j => [some (Value.pointer (some ⟨N5, 2, none⟩)), some lv, some (.int .u32 ID), some (.pointer (some ⟨rb, 0, none⟩)), some (.pointer (some ⟨rb, 0, none⟩)), none, some (.int .i64 dl), none, none, none, none, some (.pointer (some ⟨N5, 2, none⟩)), none].getD j none) V 10 = v := ⟨_, rfl⟩
        rw [hdv] at h7 h10
        rw [hlv'] at h10 h12 h10b
        have HPN : Hid (ParI w N5 rb r (k + 1) lv' W) := Lib.hid (by
          have kS : ∀ b, (b = N5 ∨ lv.ownBlock = some b ∨ b = rb) → w.heap.size < b := fun b hb => by
            rcases hb with rfl | hb | rfl
            · omega
            · have := HOW.out b hb; omega
            · omega
          refine ⟨HKX.out.trans kk (fun b hb hlt => by have := kS b hb; omega), HSX.out.kp kk (fun hb => by have := kS _ hb; omega), by rw [HRS.out]; exact hr2, h12, ?_⟩
          rw [HTK.out]
          have hsz := kk.size
          refine ⟨ds ++ [dv], by rw [List.length_append, List.length_append, List.length_singleton, List.length_singleton, HDS.out, List.length_take]; omega, ?_, fun i hi d hd => ?_⟩
          · rw [entV_snoc _ _ _ _ (by rw [HDS.out, List.length_take]; omega), HXS.out, List.length_append, List.length_take, List.length_singleton, Nat.min_eq_left (by omega)]
            exact h10
          · rw [List.length_append, List.length_singleton, List.length_take, Nat.min_eq_left (by omega)] at hi
            by_cases hik : i < k
            · have hi' : i < (r.list.take k).length := by rw [List.length_take]; omega
              rw [List.getElem?_append_left (by rw [HDS.out]; exact hik)] at hd
              rw [List.getElem_append_left hi']
              refine (((HSL.out i hi' d hd).mono (ok' := fun b => (N5 < b ∧ lv.ownBlock ≠ some b) ∧ b < X.heap.size) (fun b hb hlt => ⟨hb, hlt⟩)).kp kk ?_).mono (fun b hb _ => ⟨hb.1.1, ?_⟩)
              · intro b hb hlt hS
                rcases hS with rfl | hS | rfl
                · exact absurd hb.1.1 (by omega)
                · exact hb.1.2 hS
                · exact absurd hb.1.1 (by omega)
              · rcases h10b with h | ⟨g, h, hg⟩ <;> rw [h]
                · exact hb.1.2
                · intro e; injection e with e; have := hb.2; omega
            · obtain rfl : i = k := by omega
              rw [List.getElem?_append_right (by rw [HDS.out]; omega), HDS.out, Nat.sub_self] at hd
              simp at hd
              subst hd
              rw [List.getElem_append_right (by rw [List.length_take]; omega)]
              simp only [List.getElem_singleton]
              exact h7.mono (fun b hb _ => ⟨by have := hb.1; omega, by have := hb.2 (hall 10 rfl (by decide)); rw [hlv'] at this; exact this⟩))
        clear hR h7 h10 h12 hr2 kk e0 e1 e2 e3 e4 e6 e11 hdv hlv' hall hfix tw
        go_simp
        have tw2 : IntKind.u32.wrap ((m : Int) - 1) = ((m - 1 : Nat) : Int) := by rw [IntKind.wrap_u32]; omega
        go_wp2_with fail
        exact ⟨⟨k + 1, by omega, by rw [show m - 1 = r.list.length - (k + 1) by omega], _, HPN⟩, by simp [intOf]; omega⟩
    · have hke : k = r.list.length := by omega
      have hm0 : m = 0 := by omega
      subst hm0
      have HK := Lib.hid HP.out.kp
      have HE := Lib.hid HP.out.ents
      rw [hke, List.take_length] at HE
      have HRD := Lib.hid HP.out.rd
      rw [hke, List.drop_length] at HRD
      obtain ⟨bv', hbv', hsv'⟩ := HRD.out.out
      obtain ⟨A', c', e', _⟩ := hsv'.form
      have e'' : bv' = .slice A' 0 c' := e'
      rw [e''] at hbv'
      have d0 : wr.cell? ⟨rb, 0, none⟩ = some (.slice A' 0 c') := hbv'.cell 0
      have HBK := Lib.hid HP.out.bk
      obtain ⟨b0, b1, b2⟩ := recs3 HP.out.bk
      have HRES := Lib.hid HP.out.res
      obtain ⟨z0, z1, z2⟩ := recs3 HP.out.res
      have f0 := HP.out.res.frozen 0
      have f1 := HP.out.res.frozen 1
      have f2 := HP.out.res.frozen 2
      have hlN := HP.out.bk.lt
      obtain ⟨LA, Lc, rfl, _⟩ := (HE.out.reads (ok' := fun _ => True) (fun _ _ _ => trivial) (fun _ _ _ => trivial)).form
      have HRT : Hid (∀ W, Below wr.heap.size wr W → Calls Tryz.prog 127 #[.agg #[.int .u32 r.next, .int .u32 r.ver, .slice LA r.list.length Lc]] W fun e w' => e = .returned (.bool true) ∧ Below W.heap.size W w') := Lib.hid fun W hW => by
        have := rmsRight_ok r HR.out W (fun _ => True) _ ((HE.out.reads (ok' := fun _ => True) (fun _ _ _ => trivial) (fun _ _ _ => trivial)).kp (Kp.of_below hW (fun _ => False)) (fun _ _ _ x => x))
        unfold rcV at this
        exact this
      clear hke hm hsv' e' e'' hbv' hbv HP
      go_wp2_with fail
      refine (HRT.out wr (Below.refl _ _)).mono ?_
      rintro e w4 ⟨rfl, hb4⟩
      have k4 := Kp.of_below hb4 (fun _ => False)
      have HK4 := Lib.hid (HK.out.below_trans hb4)
      have HE4 := Lib.hid (HE.out.kp k4 (fun _ _ _ x => x) (fun _ _ _ x => x))
      have hRB := HRES.out.kp k4 (fun x => x)
      obtain ⟨b0', b1', b2'⟩ := recs3 (HBK.out.kp k4 (fun x => x))
      obtain ⟨z0', z1', z2'⟩ := recs3 hRB
      have g0 := hRB.frozen 0
      have g1 := hRB.frozen 1
      have g2 := hRB.frozen 2
      have hl4 := hRB.lt
      have HRES4 := Lib.hid hRB
      clear hb4 hRB b0 b1 b2 z0 z1 z2 f0 f1 f2 d0 c1 k4
      go_wp2_with fail
      obtain ⟨W5, hW5, hK5, hE5, y0, y1, y2, hl5⟩ : ∃ W5, (((w4.setCell ⟨w.heap.size, 0, none⟩ (.int .u32 r.next)).setCell ⟨w.heap.size, 1, none⟩ (.int .u32 r.ver)).setCell ⟨w.heap.size, 2, none⟩ (.slice LA r.list.length Lc)) = W5 ∧ Kp (fun _ => False) w W5 ∧ EntsO (fun b => w.heap.size ≤ b) w.heap.size W5 (.slice LA r.list.length Lc) r.list ∧
          W5.cell? ⟨w.heap.size, 0, none⟩ = some (.int .u32 r.next) ∧ W5.cell? ⟨w.heap.size, 1, none⟩ = some (.int .u32 r.ver) ∧ W5.cell? ⟨w.heap.size, 2, none⟩ = some (.slice LA r.list.length Lc) ∧ w.heap.size < W5.heap.size := by
        have bb := ((HRES4.out.set_ 0 (.int .u32 r.next)).set_ 1 (.int .u32 r.ver)).set_ 2 (.slice LA r.list.length Lc)
        have kk : Kp (fun b => b = w.heap.size) w4 (((w4.setCell ⟨w.heap.size, 0, none⟩ (.int .u32 r.next)).setCell ⟨w.heap.size, 1, none⟩ (.int .u32 r.ver)).setCell ⟨w.heap.size, 2, none⟩ (.slice LA r.list.length Lc)) := Kp.set_ (S := fun b => b = w.heap.size) (Kp.set_ (S := fun b => b = w.heap.size) (Kp.set_ (S := fun b => b = w.heap.size) (Kp.refl _ w4) (.inl rfl) _) (.inl rfl) _) (.inl rfl) _
        exact ⟨_, rfl, HK4.out.trans kk (fun b hb hlt => by omega), (HE4.out.kp kk (fun b hb _ => by omega) (fun b hb _ => by omega)).mono (by omega) (fun b hb _ => by omega), bb.cell 0, bb.cell 1, bb.cell 2, bb.lt⟩
      rw [hW5]
      exact bodyPost_ret (v := .tuple #[.agg #[.int .u32 r.next, .int .u32 r.ver, .slice LA r.list.length Lc], .int .i64 0]) (by simp [results, Tryz.results90, go_sem, y0, y1, y2]) rfl ⟨_, rfl, hE5, hK5.below⟩
end Go.Proofs.YtnaphhfmccbamaaGreatDoor

namespace Go.Proofs.YtnaphhfmccbamaaGreatDoor
open Go.RowKit Go.MapKept

def idxFind : List (ByteArray × Value) → ByteArray → Option Value
  | [], _ => none
  | x :: r, k => if x.1 = k then some x.2 else idxFind r k
def idxPut : List (ByteArray × Value) → ByteArray → Value → List (ByteArray × Value)
  | [], k, v => [(k, v)]
  | x :: r, k, v => if x.1 = k then (k, v) :: r else x :: idxPut r k v

theorem idxFind_none {l : List (ByteArray × Value)} {k : ByteArray} (h : ∀ x ∈ l, x.1 ≠ k) : idxFind l k = none := by
  induction l with
  | nil => rfl
  | cons x r ih =>
    simp only [idxFind]
    rw [if_neg (h x (by simp)), ih (fun y hy => h y (by simp [hy]))]
theorem idxFind_at {l : List (ByteArray × Value)} {k : ByteArray} {v : Value} {j : Nat} (hn : (l.map (·.1)).Nodup) (h : l[j]? = some (k, v)) : idxFind l k = some v := by
  induction l generalizing j with
  | nil => simp at h
  | cons x r ih =>
    simp only [List.map_cons, List.nodup_cons] at hn
    simp only [idxFind]
    cases j with
    | zero => simp at h; subst h; simp
    | succ j =>
      have hr : r[j]? = some (k, v) := by simpa using h
      rw [if_neg, ih hn.2 hr]
      intro e
      exact hn.1 (by rw [e]; exact List.mem_map.2 ⟨_, List.mem_of_getElem? hr, rfl⟩)
theorem idxPut_new {l : List (ByteArray × Value)} {k : ByteArray} {v : Value} (h : ∀ x ∈ l, x.1 ≠ k) : idxPut l k v = l ++ [(k, v)] := by
  induction l with
  | nil => rfl
  | cons x r ih =>
    simp only [idxPut]
    rw [if_neg (h x (by simp)), ih (fun y hy => h y (by simp [hy]))]
    rfl
theorem idxPut_at {l : List (ByteArray × Value)} {k : ByteArray} {v u : Value} {j : Nat} (hn : (l.map (·.1)).Nodup) (h : l[j]? = some (k, u)) : idxPut l k v = l.set j (k, v) := by
  induction l generalizing j with
  | nil => simp at h
  | cons x r ih =>
    simp only [List.map_cons, List.nodup_cons] at hn
    simp only [idxPut]
    cases j with
    | zero => simp at h; subst h; simp
    | succ j =>
      have hr : r[j]? = some (k, u) := by simpa using h
      rw [if_neg, ih hn.2 hr]
      · rfl
      · intro e
        exact hn.1 (by rw [e]; exact List.mem_map.2 ⟨_, List.mem_of_getElem? hr, rfl⟩)

/-- Block m of w is a map that reads as the list. -/
def MapIs (w : World) (m : Nat) (l : List (ByteArray × Value)) : Prop :=
  ∃ es clock, w.heap[m]? = some (.map es clock) ∧ Stamped es clock ∧ es.toList.map (fun e => (e.key, e.val)) = l.map (fun x => (Value.string x.1, x.2))

section
variable {w w' : World} {m : Nat} {l : List (ByteArray × Value)} {S : Nat → Prop}
theorem MapIs.lt (h : MapIs w m l) : m < w.heap.size := by
  obtain ⟨es, clock, hb, _⟩ := h
  exact (Array.getElem?_eq_some_iff.1 hb).1
theorem MapIs.kp (h : MapIs w m l) (k : Kp S w w') (hm : ¬ S m) : MapIs w' m l := by
  have hlt := h.lt
  obtain ⟨es, clock, hb, r⟩ := h
  exact ⟨es, clock, (k.block m hlt hm).trans hb, r⟩
theorem MapIs.alloc (h : MapIs w m l) (o : Obj) : MapIs (w.alloc o) m l := h.kp ((Kp.refl (fun _ => False) w).alloc o) (fun x => x)
theorem MapIs.drew (h : MapIs w m l) : MapIs w.drew m l := h
theorem MapIs.set_ (h : MapIs w m l) {p : Addr} (hp : m ≠ p.block) (u : Value) : MapIs (w.setCell p u) m l := h.kp ((Kp.refl (fun k => k = p.block) w).set_ (.inl rfl) u) hp
theorem MapIs.made (w : World) : MapIs (w.alloc (.map #[] 0)) w.heap.size [] := ⟨#[], 0, (heap_alloc w _).1, stamped_empty 0, rfl⟩
theorem MapIs.ne_blk {g : Nat} {t : TypeId} {cs : Array Value} (h : MapIs w m l) (hb : Blk w g t cs) : g ≠ m := by
  rintro rfl
  obtain ⟨es, clock, hm, _⟩ := h
  unfold Blk at hb
  rw [hm] at hb
  cases hb
theorem MapIs.nodup (h : MapIs w m l) : (l.map (·.1)).Nodup := by
  obtain ⟨es, clock, _, hs, he⟩ := h
  have h3 := hs.2.2
  have e1 : es.toList.map (·.key) = (l.map (·.1)).map Value.string := by
    have := congrArg (List.map (·.1)) he
    simpa [List.map_map, Function.comp_def] using this
  rw [e1] at h3
  unfold List.Nodup at h3 ⊢
  rw [List.pairwise_map] at h3
  exact h3.imp (fun hne e2 => hne (by rw [e2]))
theorem map_keys {es : Array MapEntry} (he : es.toList.map (fun e => (e.key, e.val)) = l.map (fun x => (Value.string x.1, x.2))) : ∀ x ∈ es.toList, IsKey .string x.key := by
  intro x hx
  have : (x.key, x.val) ∈ l.map (fun x => (Value.string x.1, x.2)) := by rw [← he]; exact List.mem_map.2 ⟨x, hx, rfl⟩
  obtain ⟨y, _, hy⟩ := List.mem_map.1 this
  injection hy with h1 h2
  rw [← h1]
  trivial
/-- The key lies nowhere, or at one place. -/
theorem map_spec {es : Array MapEntry} {clock : Nat} (_hs : Stamped es clock) (he : es.toList.map (fun e => (e.key, e.val)) = l.map (fun x => (Value.string x.1, x.2))) (k : ByteArray) :
    (Instr.findNow .string (.string k) es.toList 0 = some none ∧ (∀ x ∈ l, x.1 ≠ k)) ∨ ∃ j e, Instr.findNow .string (.string k) es.toList 0 = some (some (j, e.val)) ∧ es.toList[j]? = some e ∧ e.key = .string k ∧ l[j]? = some (k, e.val) := by
  rcases findNow_spec (d := .string) (k := .string k) trivial es.toList 0 (map_keys he) with ⟨h1, h2⟩ | ⟨j, e, h1, h2, h3⟩
  · refine .inl ⟨h1, fun x hx e => ?_⟩
    have : (Value.string x.1, x.2) ∈ es.toList.map (fun e => (e.key, e.val)) := by rw [he]; exact List.mem_map.2 ⟨x, hx, rfl⟩
    obtain ⟨y, hy, hyx⟩ := List.mem_map.1 this
    injection hyx with h4 h5
    exact h2 y hy (by rw [h4, e])
  · refine .inr ⟨j, e, by simpa using h1, h2, h3, ?_⟩
    have := congrArg (fun q => q[j]?) he
    simp only [List.getElem?_map, h2, Option.map_some] at this
    cases hl : l[j]? with
    | none => rw [hl] at this; cases this
    | some x =>
      rw [hl] at this
      simp only [Option.map_some, Option.some.injEq, Prod.mk.injEq] at this
      obtain ⟨e1, e2⟩ := this
      rw [h3] at e1
      injection e1 with e1
      rw [e1, e2]

theorem map_look {P : Program} (h : MapIs w m l) {t kt e : TypeId} (ht : P.underlying t = some (.map kt e)) (hk : P.underlying kt = some .string) {z : Value} (hz : (zeroValue e).run P w = .ok z w) (k : ByteArray) :
    (Instr.lookup t (.map (some m)) (.string k) true).run P w = .ok (.tuple #[(idxFind l k).getD z, .bool (idxFind l k).isSome]) w := by
  have hn := h.nodup
  obtain ⟨es, clock, hb, hs, he⟩ := h
  have hck : (Instr.checkKey es.isEmpty 10000 kt (.string k)).run P w = .ok () w := run_checkKey hk (k := .string k) (by trivial) _ 9999
  rcases map_spec hs he k with ⟨h1, h2⟩ | ⟨j, e0, h1, h2, h3, h4⟩
  · rw [idxFind_none h2]
    simp [Instr.lookup, run_underlying ht, MapKept.run_getObj_map hb, hck, run_findKey hk h1, hz, Result.andThen]
  · rw [idxFind_at hn h4]
    simp [Instr.lookup, run_underlying ht, MapKept.run_getObj_map hb, hck, run_findKey hk h1, Result.andThen]

theorem map_put {P : Program} (h : MapIs w m l) {t kt e : TypeId} (ht : P.underlying t = some (.map kt e)) (hk : P.underlying kt = some .string) (k : ByteArray) (v : Value) :
    ∃ w', (Instr.mapUpdate t (.map (some m)) (.string k) v).run P w = .ok () w' ∧ MapIs w' m (idxPut l k v) ∧ Kp (fun b => b = m) w w' := by
  have hn := h.nodup
  obtain ⟨es, clock, hb, hs, he⟩ := h
  have hck : (Instr.checkKey false 10000 kt (.string k)).run P w = .ok () w := run_checkKey hk (k := .string k) (by trivial) _ 9999
  have hkp : ∀ o : Obj, Kp (fun b => b = m) w { w with heap := w.heap.setIfInBounds m o } := fun o => ⟨rfl, rfl, rfl, by simp, fun b _ hne => (heap_set hb).2 b hne⟩
  rcases map_spec hs he k with ⟨h1, h2⟩ | ⟨j, e0, h1, h2, h3, h4⟩
  · refine ⟨_, by simp [Instr.mapUpdate, run_underlying ht, MapKept.run_getObj_map hb, hck, run_findKey hk h1, run_setObj_map _ hb, Result.andThen]; rfl, ⟨_, _, (heap_set hb).1, stamped_push hs (fun x hx e1 => ?_), ?_⟩, hkp _⟩
    · have : (x.key, x.val) ∈ l.map (fun x => (Value.string x.1, x.2)) := by rw [← he]; exact List.mem_map.2 ⟨x, hx, rfl⟩
      obtain ⟨y, hy, hyx⟩ := List.mem_map.1 this
      injection hyx with h4 h5
      rw [e1] at h4
      injection h4 with h4
      exact h2 y hy h4
    · rw [idxPut_new h2]
      simp [he]
  · have hj : es[j]? = some e0 := by simpa using h2
    refine ⟨{ w with heap := w.heap.setIfInBounds m (.map (es.modify j fun e => { e with key := .string k, val := v }) clock) }, by simp [Instr.mapUpdate, run_underlying ht, MapKept.run_getObj_map hb, hck, run_findKey hk h1, hj, h3, run_keyThatStays (d := .string) (k := .string k) (by trivial), run_setObj_map _ hb, Result.andThen], ⟨_, _, (heap_set hb).1, stamped_modify hs _ _ (fun _ _ => rfl) (fun e' _ he' => ?_), ?_⟩, hkp _⟩
    · rw [hj] at he'; cases he'; exact h3.symm
    · rw [idxPut_at hn h4]
      apply List.ext_getElem?
      intro i
      have hi := congrArg (fun q => q[i]?) he
      simp only [List.getElem?_map, Array.getElem?_toList, Array.getElem?_modify, List.getElem?_set] at hi ⊢
      by_cases e1 : j = i
      · subst e1
        have hjl : j < l.length := (List.getElem?_eq_some_iff.1 h4).1
        simp [hj, hjl]
      · rw [if_neg e1, if_neg e1]
        exact hi

theorem map_len {P : Program} (h : MapIs w m l) {t kt e : TypeId} (ht : P.underlying t = some (.map kt e)) (ty : TypeId) : (Builtin.len_ #[t] ty #[.map (some m)]).run P w = .ok (.int .i64 (l.length : Nat)) w := by
  obtain ⟨es, clock, hb, _, he⟩ := h
  have hl := congrArg List.length he
  simp only [List.length_map, Array.length_toList] at hl
  simp [Builtin.len_, run_underlying ht, MapKept.run_getObj_map hb, goInt, Result.andThen, hl]
end
end Go.Proofs.YtnaphhfmccbamaaGreatDoor

namespace Go.Proofs.YtnaphhfmccbamaaGreatDoor
open Go.RowKit

structure Sec where
  state : Nat
  seq : Nat
  erases : Nat
def secV (s : Sec) : List Value := [.int .i64 s.state, .int .u32 s.seq, .int .i64 s.erases]
def secsV (l : List Sec) : List Value := l.flatMap secV
def mayB (lim : Nat) (s : Sec) : Bool := s.state == 0 || (s.state == 1 && decide (s.erases < lim))

/-- The slice value v reads as the sectors l, in a block that is ok and known whole. -/
def SecAt (ok : Nat → Prop) (w : World) (v : Value) (l : List Sec) : Prop :=
  ∃ g c cs, v = .slice (some ⟨g, 0, none⟩) l.length c ∧ l.length ≤ c ∧ ok g ∧ Blk w g 100 cs ∧ ∀ i (h : i < l.length), cs[i * 3]? = some (.int .i64 l[i].state) ∧ cs[i * 3 + 1]? = some (.int .u32 l[i].seq) ∧ cs[i * 3 + 2]? = some (.int .i64 l[i].erases)
theorem SecAt.kp {ok S : Nat → Prop} {w w' : World} {v : Value} {l : List Sec} (h : SecAt ok w v l) (k : Kp S w w') (hs : ∀ b, ok b → b < w.heap.size → ¬ S b) : SecAt ok w' v l := by
  obtain ⟨g, c, cs, e, h1, h2, h3, h4⟩ := h
  exact ⟨g, c, cs, e, h1, h2, h3.kp k (hs g h2 h3.lt), h4⟩

theorem erases_any (a b c : Int) (w : World) : Calls Tryz.prog 200 #[.agg #[.int .i64 a, .int .u32 b, .int .i64 c]] w fun e w' => e = .returned (.int .i64 c) ∧ Below w.heap.size w w' := by
  go_enter Tryz.func200, Tryz.ntmps200
  go_wp2
  go_ret
  exact ⟨rfl, (Below.refl w.heap.size w).alloc (Nat.le_refl _) _⟩

theorem opens1_any (s : Sec) (lim pl : Nat) (w : World) (hl : w.cell? ⟨pl, 0, none⟩ = some (.int .i64 lim)) (hp : pl < w.heap.size) :
    Calls Tryz.prog 112 #[.agg #[.int .i64 s.state, .int .u32 s.seq, .int .i64 s.erases], .pointer (some ⟨pl, 0, none⟩)] w fun e w' => e = .returned (.bool (mayB lim s)) ∧ Below w.heap.size w w' := by
  obtain ⟨a, b, c⟩ := s
  by_cases h0 : a = 0
  · subst h0
    go_enter Tryz.func112, Tryz.ntmps112
    go_wp2
    go_ret
    exact ⟨by simp [mayB], (Below.refl w.heap.size w).alloc (Nat.le_refl _) _⟩
  · have t0 : ((a : Int) == 0) = false := beq_eq_false_iff_ne.2 (by omega)
    by_cases h1 : a = 1
    · subst h1
      go_enter Tryz.func112, Tryz.ntmps112
      go_wp2
      go_ret
      exact ⟨by simp [mayB], (Below.refl w.heap.size w).alloc (Nat.le_refl _) _⟩
    · have t1 : ((a : Int) == 1) = false := beq_eq_false_iff_ne.2 (by omega)
      go_enter Tryz.func112, Tryz.ntmps112
      go_wp2
      go_ret
      exact ⟨by simp [mayB, h0, h1], (Below.refl w.heap.size w).alloc (Nat.le_refl _) _⟩

theorem opens_any (lim : Nat) (w : World) : Calls Tryz.prog 79 #[.int .i64 lim] w fun e w' => ∃ pl, e = .returned (.func (.func 112) #[] #[.pointer (some ⟨pl, 0, none⟩)]) ∧ w.heap.size ≤ pl ∧ Blk w' pl 3 #[.int .i64 lim] ∧ Below w.heap.size w w' := by
  go_enter Tryz.func79, Tryz.ntmps79
  go_wp2
  go_ret
  exact ⟨w.heap.size, rfl, Nat.le_refl _, Blk.at_top rfl, (Below.refl w.heap.size w).alloc (Nat.le_refl _) _⟩

set_option maxRecDepth 100000 in
theorem Free_any (l : List Sec) (hm : l.length ≤ 64) (lim : Nat) (w : World) (ok : Nat → Prop) (v : Value) (hv : SecAt ok w v l) :
    Calls Tryz.prog 49 #[v, .int .i64 lim] w fun e w' => e = .returned (.int .i64 (((l.filter (mayB lim)).length : Nat) : Int)) ∧ Below w.heap.size w w' := by
  obtain ⟨g, c, cs, rfl, hc, _, hgb, hcell⟩ := hv
  have hg := hgb.lt
  have HC : Hid (∀ i (h : i < l.length), w.cell? ⟨g, i * 3, none⟩ = some (.int .i64 l[i].state) ∧ w.cell? ⟨g, i * 3 + 1, none⟩ = some (.int .u32 l[i].seq) ∧ w.cell? ⟨g, i * 3 + 2, none⟩ = some (.int .i64 l[i].erases)) :=
    Lib.hid fun i h => ⟨(hgb.cell _).trans (hcell i h).1, (hgb.cell _).trans (hcell i h).2.1, (hgb.cell _).trans (hcell i h).2.2⟩
  clear hcell hgb
  go_enter Tryz.func49, Tryz.ntmps49
  go_wp2_with fail
  refine (opens_any lim w).mono ?_
  rintro e w1 ⟨pl, rfl, hpl0, hplB, hb1⟩
  have hpl1 := hplB.lt
  have hplc : w1.cell? ⟨pl, 0, none⟩ = some (.int .i64 lim) := hplB.cell 0
  have HPL := Lib.hid hplc
  clear hplc hplB
  go_wp2_with fail
  go_loopw [5, 13] (fun n i wr => ∃ k : Nat, k ≤ l.length ∧ i = .int .i64 k ∧ n = .int .i64 ((((l.take k).filter (mayB lim)).length : Nat) : Int) ∧ Below w.heap.size w wr ∧ Hid (Below w1.heap.size w1 wr)) (fun _ i _ => l.length - (intOf i).toNat)
  case atStart => exact ⟨0, Nat.zero_le _, rfl, by simp, hb1, Lib.hid (Below.refl _ _)⟩
  case round =>
    obtain ⟨k, hk, rfl, rfl, hbl, HB⟩ := hrel
    by_cases hlt : k < l.length
    · obtain ⟨x, hx, hx0, hx1, hx2⟩ : ∃ x : Sec, Hid (l[k] = x) ∧ wr.cell? ⟨g, k * 3, none⟩ = some (.int .i64 x.state) ∧ wr.cell? ⟨g, k * 3 + 1, none⟩ = some (.int .u32 x.seq) ∧ wr.cell? ⟨g, k * 3 + 2, none⟩ = some (.int .i64 x.erases) := by
        have := HC.out k hlt
        exact ⟨l[k], Lib.hid rfl, (hbl.cell (p := ⟨g, k * 3, none⟩) hg).trans this.1, (hbl.cell (p := ⟨g, k * 3 + 1, none⟩) hg).trans this.2.1, (hbl.cell (p := ⟨g, k * 3 + 2, none⟩) hg).trans this.2.2⟩
      have hlp : (wr.alloc (.cells #[.int .i64 x.state, .int .u32 x.seq, .int .i64 x.erases] 100)).cell? ⟨pl, 0, none⟩ = some (.int .i64 lim) := by
        rw [World.cell?_alloc_lt _ _ _ (by show pl < _; have := HB.out.size; omega)]
        exact (HB.out.cell (p := ⟨pl, 0, none⟩) hpl1).trans HPL.out
      have hpw : pl < (wr.alloc (.cells #[.int .i64 x.state, .int .u32 x.seq, .int .i64 x.erases] 100)).heap.size := by have := HB.out.size; simp; omega
      have hcall := opens1_any x lim pl _ hlp hpw
      have hfl : (l.take (k + 1)).filter (mayB lim) = (l.take k).filter (mayB lim) ++ [x].filter (mayB lim) := by
        rw [List.take_succ_eq_append_getElem hlt, List.filter_append, hx.out]
      have hlen : ((l.take k).filter (mayB lim)).length ≤ k := Nat.le_trans (List.length_filter_le _ _) (List.length_take_le _ _)
      obtain ⟨m, hmm, hmk⟩ : ∃ m, ((l.take k).filter (mayB lim)).length = m ∧ m ≤ k := ⟨_, rfl, hlen⟩
      rw [hmm]
      cases hmb : mayB lim x with
      | true =>
        rw [hmb] at hcall
        have HN : Hid (((l.take (k + 1)).filter (mayB lim)).length = m + 1) := Lib.hid (by rw [hfl, List.length_append, hmm]; simp [hmb])
        clear hfl hlp hpw hlen hmm hmb
        go_wp2_with fail
        refine hcall.mono ?_
        rintro e w2 ⟨rfl, hb2⟩
        have hbl2 : Below w.heap.size w w2 := ((Kp.of_below hbl (fun _ => False)).alloc _).below_trans hb2 |>.below
        have HB2 : Hid (Below w1.heap.size w1 w2) := Lib.hid (((Kp.of_below HB.out (fun _ => False)).alloc _).below_trans hb2 |>.below)
        clear hb2
        go_wp2
        go_roundw
        case rel => exact ⟨k + 1, by omega, by go_num, by rw [HN.out]; go_num, hbl2, HB2⟩
        case measure => simp [intOf]; omega
      | false =>
        rw [hmb] at hcall
        have HN : Hid (((l.take (k + 1)).filter (mayB lim)).length = m) := Lib.hid (by rw [hfl, List.length_append, hmm]; simp [hmb])
        clear hfl hlp hpw hlen hmm hmb
        go_wp2_with fail
        refine hcall.mono ?_
        rintro e w2 ⟨rfl, hb2⟩
        have hbl2 : Below w.heap.size w w2 := ((Kp.of_below hbl (fun _ => False)).alloc _).below_trans hb2 |>.below
        have HB2 : Hid (Below w1.heap.size w1 w2) := Lib.hid (((Kp.of_below HB.out (fun _ => False)).alloc _).below_trans hb2 |>.below)
        clear hb2
        go_wp2
        go_roundw
        case rel => exact ⟨k + 1, by omega, by go_num, by rw [HN.out], hbl2, HB2⟩
        case measure => simp [intOf]; omega
    · obtain rfl : k = l.length := by omega
      go_wp2
      go_ret
      exact ⟨by simp, hbl⟩
end Go.Proofs.YtnaphhfmccbamaaGreatDoor
