/- Contract of rec.Bytes (layer 5): all bytes of a record but the last one. Contracts of package rms (layer 9): right at a record store that may be. Contracts of package rms (layer 9): the reader's next and data. What a region that appends one element to a slice in a struct's field keeps, where calls change further blocks on the way. -/
import Derived.Test.YtnaphhfmccbamaaGreatDoorPr04
import Derived.Test.YtnaphhfmccbamaaGreatDoorPr02
import Derived.Test.YtnaphhfmccbamaaGreatDoorPr03
namespace Go.Proofs.YtnaphhfmccbamaaGreatDoor
open Go.RowKit

def recHead (kind txn klen blen cnt : Nat) : List UInt8 := [UInt8.ofNat kind] ++ putL txn 4 4 ++ putL klen 1 1 ++ putL blen 2 2 ++ putL cnt 1 1
def recBody (kind txn cnt : Nat) (key blob : List UInt8) : List UInt8 :=
  recHead kind txn key.length blob.length cnt ++ putL (sum16N (recHead kind txn key.length blob.length cnt)) 2 2 ++ key ++ blob
def recL (kind txn cnt : Nat) (key blob : List UInt8) : List UInt8 := recBody kind txn cnt key blob ++ putL (sum32N (recBody kind txn cnt key blob)) 4 4
@[simp] theorem recHead_length (kind txn klen blen cnt : Nat) : (recHead kind txn klen blen cnt).length = 9 := by simp [recHead]
theorem recBody_length (kind txn cnt : Nat) (key blob : List UInt8) : (recBody kind txn cnt key blob).length = 11 + key.length + blob.length := by simp [recBody]; omega
theorem recL_length (kind txn cnt : Nat) (key blob : List UInt8) : (recL kind txn cnt key blob).length = 15 + key.length + blob.length := by simp [recL, recBody_length]; omega

/-- append of a string onto a row of the call's own, as a step of a region that draws. -/
theorem step_append_str {P : Program} {w : World} {ops : Array Oper} {o : Oper} {a : Act} {K : Act → World → Prop} {Q : Exit → Act → World → Prop} {E : Prop} (hgd : o.guard = none) (x y : Operand) (t u : TypeId)
    (ho : o.op = .call { callee := .builtin .append, args := #[x, y], argTypes := #[t, u] })
    (base : Nat) (e : TypeId) (i : TypeInfo) (ht : P.underlying t = some (.slice e)) (hu : P.underlying u = some .string) (hi : P.info? e = some i) (hz : i.zero = some (.int .u8 0)) (hsize : i.size = 1) (hby : i.bytes = 1)
    (v : Value) (n : Nat) (xs : List Value) (s : ByteArray) (hs : a.eval x = v) (hy : a.eval y = .string s) (hown : w.ownsRow base e 1 v n xs)
    (h63 : n + s.size ≤ maxLen) (hbytes : n + s.size ≤ 140737488355328) (hbase : base ≤ w.heap.size)
    (h : ∀ v' w', w'.ownsRow base e 1 v' (n + s.size) (xs ++ Lib.strCells s) → w.grownBy w' v.ownBlock → K (a.put o.dst v') w') :
    if Region.wanted o (yielded ops a.tmps) = true then Oper.wp P o a w K Q else E := by
  have hw : Region.wanted o (yielded ops a.tmps) = true := by simp [Region.wanted, hgd]
  rw [if_pos hw]
  obtain ⟨v', w', hrun, h2, h3, _⟩ := Lib.run_append_own_string (P := P) w base t u o.type e i ht hu hi hz hsize hby v n xs hown s h63 hbytes hbase
  unfold Oper.wp execOp
  simp only [ho, resolve, invoke, builtin, Sem.run_bind, Sem.run_pure, Result.andThen_ok, List.map_toArray, List.map_cons, List.map_nil, hs, hy, hrun]
  exact h v' w' h2 h3

theorem kp_own {base : Nat} {e : TypeId} {w w' : World} {v : Value} {n : Nat} {xs : List Value} (ho : w.ownsRow base e 1 v n xs) (h : w.grownBy w' v.ownBlock) : Kp (fun k => base ≤ k) w w' :=
  (kp_of_grown h).mono (fun k hk => by
    rcases ho.2 with ⟨rfl, _⟩ | ⟨g, cap, cur, rfl, a2, _⟩
    · simp [Value.ownBlock] at hk
    · simp [Value.ownBlock] at hk; omega)
theorem recS {W : World} {n : Nat} {t : TypeId} {a b c d e : Value} (h : Blk W n t #[a, b, c, d, e]) : Blk W n t #[a, b, c, d, e] ∧ W.cell? ⟨n, 2, none⟩ = some c ∧ W.cell? ⟨n, 3, none⟩ = some d := ⟨h, h.cell 2, h.cell 3⟩
theorem sl_reads {ok : Nat → Prop} {w : World} {A : Option Addr} {c : Nat} {l : List UInt8} (h : Sl ok w (.slice A l.length c) (bytesV l)) : Reads w w.heap.size 1 A l.length (bytesV l) := by
  have := h.reads.2.2
  exact this
theorem rec5 {w : World} {n : Nat} {t : TypeId} {a b c d e : Value} (h : Blk w n t #[a, b, c, d, e]) : w.cell? ⟨n, 0, none⟩ = some a ∧ w.cell? ⟨n, 1, none⟩ = some b ∧ w.cell? ⟨n, 2, none⟩ = some c ∧ w.cell? ⟨n, 3, none⟩ = some d ∧ w.cell? ⟨n, 4, none⟩ = some e :=
  ⟨h.cell 0, h.cell 1, h.cell 2, h.cell 3, h.cell 4⟩

set_option maxRecDepth 100000 in
set_option maxHeartbeats 4000000 in
theorem recBytes_ok (kind txn cnt : Nat) (hk : kind ≤ 3) (htx : txn < 4294967296) (hcn : cnt ≤ 16) (key : ByteArray) (hks : key.size ≤ 64) (blob : List UInt8) (hbl : blob.length ≤ 4096) (w : World) (ok : Nat → Prop) (bv : Value) (hv : Sl ok w bv (bytesV blob))
    (hr : ∀ W, Calls Tryz.prog 158 #[recV kind txn key bv cnt, .int .i64 key.size, .int .i64 blob.length] W fun e w' => e = .returned (.bool true) ∧ Below W.heap.size W w') :
    Calls Tryz.prog 167 #[recV kind txn key bv cnt] w fun e w' => ∃ r, e = .returned (.tuple #[r, .int .i64 0]) ∧ Sl (fun b => w.heap.size ≤ b) w' r (bytesV (recL kind txn cnt key.data.toList blob)) ∧ Below w.heap.size w w' := by
  obtain ⟨i0, hi, hz0, hz1, hz2⟩ := info_parts info_byte
  obtain ⟨A, c, rfl, hc⟩ := hv.form
  rw [bytesV_length] at hr
  rw [bytesV_length]
  unfold recV at hr ⊢
  have HR := Lib.hid hr
  have HV := Lib.hid hv
  have hk1 : decide ((kind : Int) ≤ 255) = true := decide_eq_true (by omega)
  have hkk : (kind : Int) < 256 := by omega
  clear hr hv
  go_enter Tryz.func167, Tryz.ntmps167
  go_wp2_with fail
  refine (HR.out _).mono ?_
  rintro e w1 ⟨rfl, hb1⟩
  have B1 := ((Blk.at_top rfl : Blk (w.alloc (.cells #[.int .i64 kind, .int .u32 txn, .string key, .slice A blob.length c, .int .i64 cnt] 183)) w.heap.size 183 #[.int .i64 kind, .int .u32 txn, .string key, .slice A blob.length c, .int .i64 cnt])).kp (Kp.of_below hb1 (fun _ => False)) (fun x => x)
  have K1 := ((Kp.refl (fun _ => False) w).alloc (.cells #[.int .i64 kind, .int .u32 txn, .string key, .slice A blob.length c, .int .i64 cnt] 183)).below_trans hb1
  have V1 := Lib.hid (HV.out.kp K1 (fun _ _ _ => id))
  obtain ⟨q0, q1, q2, q3, q4⟩ := rec5 B1
  have zz := B1.lt
  go_wp2_with fail
  have hs0 : Sl (fun _ => True) (w1.alloc (.cells #[.int .u8 kind] 5)) (.slice (some ⟨w1.heap.size, 0, none⟩) 1 1) (bytesV [UInt8.ofNat kind]) := by
    refine ⟨some ⟨w1.heap.size, 0, none⟩, 1, rfl, by simp, fun _ => ⟨w1.heap.size, 0, rfl, trivial, by simp, fun i u hu => ?_⟩⟩
    have := (Blk.new w1 5 #[.int .u8 kind]).cell (0 + i)
    rw [this, Nat.zero_add, ← hu]
    have hkk : (UInt8.ofNat kind).toNat = kind := by rw [UInt8.toNat_ofNat']; omega
    simp [bytesV, byteV, hkk]
  refine (Put_any txn 4 (by omega) (by omega) _ _ _ _ hs0 (by simp)).mono ?_
  rintro e w2 ⟨r2, rfl, ho, hb2⟩
  have hs2 := Sl.of_own ho
  rw [← bytesV_append] at hs2
  have B2 := (B1.alloc _).kp (Kp.of_below hb2 (fun _ => False)) (fun x => x)
  have K2 := (K1.alloc _).below_trans hb2
  clear ho hb1 hb2 B1 hs0 q0 q1 q2 q3 q4 zz
  obtain ⟨q0, q1, q2, q3, q4⟩ := rec5 B2
  have zz := B2.lt
  go_wp2_with fail
  refine (Put_any (key.size) 1 (by omega) (by omega) _ _ _ _ hs2 (by simp)).mono ?_
  rintro e w3 ⟨r3, rfl, ho, hb3⟩
  have hs3 := Sl.of_own ho
  rw [← bytesV_append] at hs3
  have B3 := B2.kp (Kp.of_below hb3 (fun _ => False)) (fun x => x)
  have K3 := K2.below_trans hb3
  clear ho hb3 B2 hs2 q0 q1 q2 q3 q4 zz
  obtain ⟨q0, q1, q2, q3, q4⟩ := rec5 B3
  have zz := B3.lt
  go_wp2_with fail
  refine (Put_any (blob.length) 2 (by omega) (by omega) _ _ _ _ hs3 (by simp)).mono ?_
  rintro e w4 ⟨r4, rfl, ho, hb4⟩
  have hs4 := Sl.of_own ho
  rw [← bytesV_append] at hs4
  have B4 := B3.kp (Kp.of_below hb4 (fun _ => False)) (fun x => x)
  have K4 := K3.below_trans hb4
  clear ho hb4 B3 hs3 q0 q1 q2 q3 q4 zz
  obtain ⟨q0, q1, q2, q3, q4⟩ := rec5 B4
  have zz := B4.lt
  go_wp2_with fail
  refine (Put_any (cnt) 1 (by omega) (by omega) _ _ _ _ hs4 (by simp)).mono ?_
  rintro e w5 ⟨r5, rfl, ho, hb5⟩
  have hs5 := Sl.of_own ho
  rw [← bytesV_append] at hs5
  have B5 := B4.kp (Kp.of_below hb5 (fun _ => False)) (fun x => x)
  have K5 := K4.below_trans hb5
  clear ho hb5 B4 hs4 q0 q1 q2 q3 q4 zz
  obtain ⟨q0, q1, q2, q3, q4⟩ := rec5 B5
  have zz := B5.lt
  go_wp2_with fail
  obtain ⟨L5, hL5⟩ : ∃ L5, recHead kind txn key.size blob.length cnt = L5 := ⟨_, rfl⟩
  have hl5 : L5.length = 9 := by rw [← hL5]; simp
  change Sl _ _ _ (bytesV (recHead kind txn key.size blob.length cnt)) at hs5
  rw [hL5] at hs5
  have HL5 := Lib.hid hL5
  have hl5' : L5.length ≤ 100 := by omega
  have Hl5 := Lib.hid hl5
  clear hL5 hl5
  refine (Sum16_any L5 (by omega) _ _ _ hs5).mono ?_
  rintro e w6 ⟨rfl, hb6⟩
  have hs6 := hs5.kp (Kp.of_below hb6 (fun _ => False)) (fun _ _ _ => id)
  have B6 := B5.kp (Kp.of_below hb6 (fun _ => False)) (fun x => x)
  have K6 := K5.below_trans hb6
  clear hb6 B5 hs5 q0 q1 q2 q3 q4 zz
  obtain ⟨q0, q1, q2, q3, q4⟩ := rec5 B6
  have zz := B6.lt
  rw [sum16N_eq]
  have hlt16 := sum16N_lt L5
  obtain ⟨s16, hs16⟩ : ∃ s16, sum16N L5 = s16 := ⟨_, rfl⟩
  rw [hs16] at hlt16 ⊢
  have HS16 := Lib.hid hs16
  clear hs16
  go_wp2_with fail
  refine (Put_any s16 2 (by omega) (by omega) _ _ _ _ hs6 (by simp; omega)).mono ?_
  rintro e w7 ⟨r7, rfl, ho7, hb7⟩
  have B6lt := Lib.hid B6.lt
  have B7 := B6.kp (Kp.of_below hb7 (fun _ => False)) (fun x => x)
  have K7 := K6.below_trans hb7
  have V7 := Lib.hid (HV.out.kp K7 (fun _ _ _ => id))
  have z67 := hb7.size
  clear hb7 B6 hs6 q0 q1 q2 q3 q4 zz
  obtain ⟨q0, q1, q2, q3, q4⟩ := rec5 B7
  have zz := B7.lt
  go_wp2_with fail
  have VB : Sl (fun b => b < w.heap.size) w7 (.slice A blob.length c) (bytesV blob) := by
    have := (HV.out.mono (ok' := fun b => b < w.heap.size) (fun b _ h => h)).kp K7 (fun _ _ _ => id)
    rwa [bytesV_length] at this
  have z06 : w.heap.size ≤ w6.heap.size := K6.size
  have z0lt : w.heap.size < w6.heap.size := B6lt.out
  obtain ⟨X7, hX7⟩ : ∃ X7, bytesV L5 ++ bytesV (putL s16 2 2) = X7 := ⟨_, rfl⟩
  have hX7l : (bytesV L5).length + 2 = X7.length := by rw [← hX7]; simp
  rw [hX7, hX7l] at ho7
  have hX7s : X7.length ≤ 200 := by rw [← hX7l]; simp; omega
  have HX7 := Lib.hid hX7
  have ho7d : w7.drew.ownsRow w6.heap.size 5 1 r7 X7.length X7 := ho7
  have hms1 : X7.length + key.size ≤ maxLen := by unfold maxLen; omega
  have hms2 : X7.length + key.size ≤ 140737488355328 := by omega
  have hms3 : X7.length + key.size + blob.length ≤ maxLen := by unfold maxLen; omega
  have hms4 : (X7.length + key.size + blob.length) * 1 ≤ 140737488355328 := by omega
  have hms5 : w6.heap.size ≤ w7.drew.heap.size := z67
  clear hX7 hX7l ho7
  go_region_held3 (fun w' => Blk w' w.heap.size 183 #[.int .i64 kind, .int .u32 txn, .string key, .slice A blob.length c, .int .i64 cnt] ∧ w'.cell? ⟨w.heap.size, 2, none⟩ = some (.string key) ∧ w'.cell? ⟨w.heap.size, 3, none⟩ = some (.slice A blob.length c))
    (first
      | ((refine recS ?_); (repeat (first | (with_reducible assumption) | (with_reducible exact B7) | (with_reducible refine Blk.drew ?_) | (with_reducible refine Blk.kp ?_ kA ?_) | (with_reducible refine Blk.kp ?_ kB ?_) | (show ¬ _ ≤ _; omega))); done))
    (first
      | (refine step_append_str rfl (.tmp 44) (.tmp 46) 31 9 rfl w6.heap.size 5 i0 Tryz.underlying31 Tryz.underlying9 hi hz0 hz1 hz2 r7 X7.length X7 key rfl rfl ho7d hms1 hms2 hms5 ?_; intro vA wA hoA hgA; have kA := kp_own ho7d hgA; have zA : w6.heap.size ≤ wA.heap.size := Nat.le_trans hms5 kA.size; have VA := (sl_reads ((VB.drewN 1).kp kA (fun b hb _ => by omega))))
      | (refine step_append_any _ rfl (.tmp 47) (.tmp 49) 31 rfl w6.heap.size 5 i0 (.int .u8 0) 1 1 Tryz.underlying31 hi hz0 hz1 hz2 rfl (by omega) vA (X7.length + key.size) (X7 ++ Lib.strCells key) rfl hoA wA.heap.size A blob.length c (bytesV blob) rfl VA (bytesV_one _) hms3 hms4 zA ?_; intro vB wB hoB hgB _; have kB := kp_own hoA hgB))
  have hsB := Sl.of_own hoB
  have hcat : X7 ++ Lib.strCells key ++ bytesV blob = bytesV (recBody kind txn cnt key.data.toList blob) := by
    rw [← HX7.out, ← HS16.out, ← HL5.out, ← bytesV_append]
    have hk : Lib.strCells key = bytesV key.data.toList := rfl
    have hkl : key.data.toList.length = key.size := by simp
    rw [hk, ← bytesV_append, ← bytesV_append, recBody, hkl]
  rw [hcat] at hsB
  have KB : Kp (fun _ => False) w wB := (K7.drew.trans kA (fun k hk hlt => by omega)).trans kB (fun k hk hlt => by omega)
  obtain ⟨L8, hL8⟩ : ∃ L8, recBody kind txn cnt key.data.toList blob = L8 := ⟨_, rfl⟩
  have hl8 : L8.length ≤ 5000 := by rw [← hL8, recBody_length]; simp; omega
  rw [hL8] at hsB
  have HL8 := Lib.hid hL8
  have HsB := Lib.hid hsB
  clear hoA hoB hgA hgB VA kA kB hcat hL8 hsB ho7d hms1 hms2 hms3 hms4 hms5 q0 q1 q2 q3 q4 zz
  go_wp2_with fail
  refine (Sum32_any L8 (by omega) _ _ _ HsB.out).mono ?_
  rintro e w9 ⟨rfl, hb9⟩
  have hs9 := HsB.out.kp (Kp.of_below hb9 (fun _ => False)) (fun _ _ _ => id)
  have K9 := KB.below_trans hb9
  clear hb9
  rw [sum32N_eq]
  have hlt32 := sum32N_lt L8
  obtain ⟨s32, hs32⟩ : ∃ s32, sum32N L8 = s32 := ⟨_, rfl⟩
  rw [hs32] at hlt32 ⊢
  have HS32 := Lib.hid hs32
  clear hs32
  go_wp2_with fail
  refine (Put_any s32 4 (by omega) (by omega) _ _ _ _ hs9 (by simp; omega)).mono ?_
  rintro e w10 ⟨r10, rfl, ho10, hb10⟩
  have hs10 := Sl.of_own ho10
  rw [← bytesV_append] at hs10
  have K10 := K9.below_trans hb10
  have Hs10 := Lib.hid hs10
  clear ho10 hs10 hb10 hs9
  go_wp2
  go_ret2
  refine ⟨r10, rfl, ?_, K10.below⟩
  have := Hs10.out.mono (ok' := fun b => w.heap.size ≤ b) (fun b hb _ => by have := K9.size; omega)
  rw [← HS32.out, ← HL8.out] at this
  exact this
end Go.Proofs.YtnaphhfmccbamaaGreatDoor

namespace Go.Proofs.YtnaphhfmccbamaaGreatDoor
open Go.RowKit

def prevOf (b : Nat) (l : List (Nat × List UInt8)) : Nat → Nat
  | 0 => b
  | k + 1 => (l[k]?.map (·.1)).getD 0
theorem OkFrom.at_ : ∀ {l : List (Nat × List UInt8)} {nx b k : Nat} (_ : OkFrom nx b l) (hk : k < l.length), prevOf b l k < l[k].1 ∧ l[k].1 < nx ∧ l[k].2.length ≤ 512
  | y :: l, nx, b, 0, h, hk => ⟨h.1, h.2.1, h.2.2.1⟩
  | y :: l, nx, b, k + 1, h, hk => by
    have := OkFrom.at_ (k := k) h.2.2.2 (by simpa using hk)
    refine ⟨?_, this.2⟩
    cases k with
    | zero => simpa [prevOf] using this.1
    | succ k => simpa [prevOf] using this.1
theorem prevOf_succ (b : Nat) (l : List (Nat × List UInt8)) (k : Nat) (hk : k < l.length) : prevOf b l (k + 1) = l[k].1 := by simp [prevOf, hk]

/-- The slice value lv reads as the entries l; all in blocks that are ok. -/
structure EntsR (ok : Nat → Prop) (w : World) (lv : Value) (l : List (Nat × List UInt8)) : Prop where
  out : ∃ A c, lv = .slice A l.length c ∧ l.length ≤ c ∧ (0 < l.length → ∃ g, A = some ⟨g, 0, none⟩ ∧ ok g ∧ g < w.heap.size ∧ ∀ i (h : i < l.length), ∃ dv, w.cell? ⟨g, i * 2, none⟩ = some (.int .u32 l[i].1) ∧ w.cell? ⟨g, i * 2 + 1, none⟩ = some dv ∧ Sl ok w dv (bytesV l[i].2))
section
variable {ok ok' S : Nat → Prop} {w w' : World} {lv : Value} {l : List (Nat × List UInt8)}
theorem EntsR.nil (ok : Nat → Prop) (w : World) : EntsR ok w (.slice none 0 0) [] := ⟨none, 0, rfl, Nat.le_refl _, fun h => absurd h (by simp)⟩
theorem EntsR.kp (h : EntsR ok w lv l) (k : Kp S w w') (hs : ∀ b, ok b → b < w.heap.size → ¬ S b) : EntsR ok w' lv l := by
  obtain ⟨A, c, e, hc, hx⟩ := h.out
  refine ⟨A, c, e, hc, fun h0 => ?_⟩
  obtain ⟨g, hA, hg, hlt, hi⟩ := hx h0
  refine ⟨g, hA, hg, Nat.lt_of_lt_of_le hlt k.size, fun i hil => ?_⟩
  obtain ⟨dv, h1, h2, h3⟩ := hi i hil
  exact ⟨dv, (k.cell (p := ⟨g, i * 2, none⟩) hlt (hs g hg hlt)).trans h1, (k.cell (p := ⟨g, i * 2 + 1, none⟩) hlt (hs g hg hlt)).trans h2, h3.kp k hs⟩
theorem EntsR.mono (h : EntsR ok w lv l) (hs : ∀ b, ok b → b < w.heap.size → ok' b) : EntsR ok' w lv l := by
  obtain ⟨A, c, e, hc, hx⟩ := h.out
  refine ⟨A, c, e, hc, fun h0 => ?_⟩
  obtain ⟨g, hA, hg, hlt, hi⟩ := hx h0
  refine ⟨g, hA, hs g hg hlt, hlt, fun i hil => ?_⟩
  obtain ⟨dv, h1, h2, h3⟩ := hi i hil
  exact ⟨dv, h1, h2, h3.mono hs⟩
theorem EntsR.form (h : EntsR ok w lv l) : ∃ A c, lv = .slice A l.length c ∧ l.length ≤ c := by
  obtain ⟨A, c, e, hc, _⟩ := h.out
  exact ⟨A, c, e, hc⟩
end
def rcV (r : Rc) (lv : Value) : Value := .agg #[.int .u32 r.next, .int .u32 r.ver, lv]

set_option maxRecDepth 100000 in
set_option maxHeartbeats 4000000 in
theorem rmsRight_ok (r : Rc) (hr : RcOk r) (w : World) (ok : Nat → Prop) (lv : Value) (hl : EntsR ok w lv r.list) :
    Calls Tryz.prog 127 #[rcV r lv] w fun e w' => e = .returned (.bool true) ∧ Below w.heap.size w w' := by
  obtain ⟨A, c, rfl, hc, hx⟩ := hl.out
  have HX := Lib.hid hx
  have HR := Lib.hid hr
  have h64 := hr.len
  have h0 := hr.next.1
  have t1 : decide ((r.list.length : Int) ≤ 64) = true := decide_eq_true (by omega)
  have t2 : decide (0 < r.next) = true := decide_eq_true (by omega)
  clear hl hx hr
  unfold rcV
  go_enter Tryz.func127, Tryz.ntmps127
  go_wp2_with fail
  go_loopw [3, 9] (fun b i wr => ∃ k : Nat, k ≤ r.list.length ∧ i = .int .i64 k ∧ b = .int .u32 (prevOf 0 r.list k : Nat) ∧ Hid (Below w.heap.size w wr) ∧ Hid (Blk wr w.heap.size 39 #[.int .u32 r.next, .int .u32 r.ver, .slice A r.list.length c])) (fun _ i _ => r.list.length - (intOf i).toNat)
  case atStart => exact ⟨0, Nat.zero_le _, rfl, rfl, Lib.hid ((Below.refl _ w).alloc (Nat.le_refl _) _), Lib.hid (Blk.at_top rfl)⟩
  case round =>
    obtain ⟨k, hk, rfl, rfl, HB, HBK⟩ := hrel
    have c0 : wr.cell? ⟨w.heap.size, 0, none⟩ = some (.int .u32 r.next) := HBK.out.cell 0
    have c2 : wr.cell? ⟨w.heap.size, 2, none⟩ = some (.slice A r.list.length c) := HBK.out.cell 2
    have hlt1 := HBK.out.lt
    by_cases hlt : k < r.list.length
    · obtain ⟨g, rfl, hg, hgl, hi⟩ := HX.out (by omega)
      obtain ⟨dv, d1, d2, d3⟩ := hi k hlt
      obtain ⟨dA, dc, rfl, hdc⟩ := d3.form
      rw [bytesV_length] at d2
      obtain ⟨p1, p2, p3⟩ := HR.out.list.at_ hlt
      have y1 : wr.cell? ⟨g, k * 2, none⟩ = some (.int .u32 r.list[k].1) := (HB.out.cell (p := ⟨g, k * 2, none⟩) hgl).trans d1
      have y2 : wr.cell? ⟨g, k * 2 + 1, none⟩ = some (.slice dA r.list[k].2.length dc) := (HB.out.cell (p := ⟨g, k * 2 + 1, none⟩) hgl).trans d2
      have HPS := Lib.hid (prevOf_succ 0 r.list k hlt)
      obtain ⟨ID, hID⟩ : ∃ x, r.list[k].1 = x := ⟨_, rfl⟩
      obtain ⟨PR, hPR⟩ : ∃ x, prevOf 0 r.list k = x := ⟨_, rfl⟩
      obtain ⟨DL, hDL⟩ : ∃ x, r.list[k].2.length = x := ⟨_, rfl⟩
      rw [hID] at y1 p1 p2 HPS
      rw [hPR] at p1
      rw [hDL] at y2 p3
      rw [hPR]
      have t3 : decide (ID ≤ PR) = false := decide_eq_false (by omega)
      have t4 : decide (r.next ≤ ID) = false := decide_eq_false (by omega)
      have t5 : decide ((512 : Int) < (DL : Int)) = false := decide_eq_false (by omega)
      clear hi d1 d2 d3 hID hPR hDL p1 p2 p3
      go_wp2_with fail
      exact ⟨⟨k + 1, by omega, by go_num, by rw [HPS.out], Lib.hid (HB.out.alloc HB.out.size _), Lib.hid (HBK.out.alloc _)⟩, by simp [intOf]; omega⟩
    · obtain rfl : k = r.list.length := by omega
      go_wp2
      go_ret
      exact ⟨rfl, HB.out⟩

theorem recs3 {W : World} {n : Nat} {t : TypeId} {a b c : Value} (h : Blk W n t #[a, b, c]) : W.cell? ⟨n, 0, none⟩ = some a ∧ W.cell? ⟨n, 1, none⟩ = some b ∧ W.cell? ⟨n, 2, none⟩ = some c := ⟨h.cell 0, h.cell 1, h.cell 2⟩
theorem ownsRow_lo {w : World} {base base' : Nat} {e : TypeId} {sz n : Nat} {v : Value} {xs : List Value} (h : w.ownsRow base e sz v n xs) (hb : base' ≤ base) : w.ownsRow base' e sz v n xs := by
  refine ⟨h.1, ?_⟩
  rcases h.2 with h2 | ⟨g, cap, cur, e1, a2, a3⟩
  · exact .inl h2
  · exact .inr ⟨g, cap, cur, e1, by omega, a3⟩
theorem u64_nat (n : Nat) (h : n < 18446744073709551616) : IntKind.u64.wrap (n : Int) = n := by
  rw [IntKind.wrap_u64]
  omega
/-- Two numbers are put, one behind the other, and the slice is kept. -/
structure PutR (X : World) (B i1 i2 i3 : Nat) (l1 l2 : List UInt8) (L : Nat → Prop) (V : Nat → Value) (W : World) : Prop where
  kp : Kp (fun _ => False) X W
  a1 : L i1 → W.ownsRow B 5 1 (V i1) l1.length (bytesV l1)
  a2 : L i2 → W.ownsRow B 5 1 (V i2) l2.length (bytesV l2)
  a3 : L i3 → V i3 = V i2
section
variable {X W W' : World} {B i1 i2 i3 : Nat} {l1 l2 : List UInt8} {L : Nat → Prop} {V : Nat → Value}
theorem PutR.start (X : World) (V : Nat → Value) : PutR X B i1 i2 i3 l1 l2 (fun _ => False) V X.drew := ⟨(Kp.refl _ X).drew, fun h => h.elim, fun h => h.elim, fun h => h.elim⟩
theorem PutR.s1 (h : PutR X B i1 i2 i3 l1 l2 L V W) (n1 : i2 ≠ i1) (n2 : i3 ≠ i1) (h2 : ¬ L i2) (h3 : ¬ L i3) (v : Value) (ho : W'.ownsRow B 5 1 v l1.length (bytesV l1)) (hb : Below W.heap.size W W') :
    PutR X B i1 i2 i3 l1 l2 (fun j => L j ∨ j = i1) (upd V i1 v) W' := by
  refine ⟨h.kp.below_trans hb, fun _ => by rw [upd_same]; exact ho, fun hl => absurd (hl.resolve_right n1) h2, fun hl => absurd (hl.resolve_right n2) h3⟩
theorem PutR.s2 (h : PutR X B i1 i2 i3 l1 l2 L V W) (n1 : i1 ≠ i2) (n2 : i3 ≠ i2) (h3 : ¬ L i3) (v : Value) (ho : W'.ownsRow B 5 1 v l2.length (bytesV l2)) (hb : Below W.heap.size W W') :
    PutR X B i1 i2 i3 l1 l2 (fun j => L j ∨ j = i2) (upd V i2 v) W' := by
  have kk := Kp.of_below hb (fun _ => False)
  refine ⟨h.kp.below_trans hb, fun hl => ?_, fun _ => by rw [upd_same]; exact ho, fun hl => absurd (hl.resolve_right n2) h3⟩
  rw [upd_ne _ _ n1]
  exact ownsRow_kp (h.a1 (hl.resolve_right n1)) kk (fun _ _ x => x)
theorem PutR.s3 (h : PutR X B i1 i2 i3 l1 l2 L V W) (n1 : i1 ≠ i3) (n2 : i2 ≠ i3) : PutR X B i1 i2 i3 l1 l2 (fun j => L j ∨ j = i3) (upd V i3 (V i2)) W := by
  refine ⟨h.kp, fun hl => ?_, fun hl => ?_, fun _ => ?_⟩
  · rw [upd_ne _ _ n1]; exact h.a1 (hl.resolve_right n1)
  · rw [upd_ne _ _ n2]; exact h.a2 (hl.resolve_right n2)
  · rw [upd_same, upd_ne _ _ n2]
end
theorem entsB_take (l : List (Nat × List UInt8)) (k : Nat) (hk : k < l.length) : entsB (l.take (k + 1)) = entsB (l.take k) ++ entB l[k] := by
  induction l generalizing k with
  | nil => simp at hk
  | cons x l ih =>
    cases k with
    | zero => simp [entsB]
    | succ k => simp only [List.take_succ_cons, entsB, List.getElem_cons_succ, ih k (by simpa using hk), List.append_assoc]
theorem put_own {x n : Nat} {w w' : World} {base : Nat} {l : List UInt8} {r : Value} (h : w'.ownsRow w.heap.size 5 1 r ((bytesV l).length + n) (bytesV l ++ bytesV (putL x n n))) (hb : base ≤ w.heap.size) : w'.ownsRow base 5 1 r (l ++ putL x n n).length (bytesV (l ++ putL x n n)) := by
  rw [bytesV_append, List.length_append, putL_length]
  rw [bytesV_length] at h
  exact ownsRow_lo h hb

set_option maxRecDepth 100000 in
set_option maxHeartbeats 4000000 in
theorem rmsBytes_ok (r : Rc) (hr : RcOk r) (w : World) (ok : Nat → Prop) (lv : Value) (hl : EntsR ok w lv r.list) :
    Calls Tryz.prog 121 #[rcV r lv] w fun e w' => ∃ v, e = .returned (.tuple #[v, .int .i64 0]) ∧ Sl (fun b => w.heap.size ≤ b) w' v (bytesV (rcB r)) ∧ Below w.heap.size w w' := by
  have HL := Lib.hid hl
  have HR := Lib.hid hr
  obtain ⟨A, c, rfl, hc⟩ := hl.form
  have h64 := hr.len
  have hn := hr.next.2
  have hv := hr.ver
  clear hl hr
  have HRT : Hid (∀ W, Below w.heap.size w W → Calls Tryz.prog 127 #[.agg #[.int .u32 r.next, .int .u32 r.ver, .slice A r.list.length c]] W fun e w' => e = .returned (.bool true) ∧ Below W.heap.size W w') := Lib.hid fun W hW => by
    have := rmsRight_ok r HR.out W ok _ (HL.out.kp (Kp.of_below hW (fun _ => False)) (fun _ _ _ x => x))
    unfold rcV at this
    exact this
  unfold rcV
  go_enter Tryz.func121, Tryz.ntmps121
  go_wp2_with fail
  refine (HRT.out _ ((Below.refl _ w).alloc (Nat.le_refl _) _)).mono ?_
  rintro e w1 ⟨rfl, hb1⟩
  have HK1 := Lib.hid ((Kp.refl (fun _ => False) w).alloc _ |>.below_trans hb1)
  have HB1 := Lib.hid (Blk.kp (Blk.at_top rfl : Blk (w.alloc (.cells #[.int .u32 r.next, .int .u32 r.ver, .slice A r.list.length c] 39)) w.heap.size _ _) (Kp.of_below hb1 (fun _ => False)) (fun x => x))
  clear hb1
  go_wp2_with fail
  have hz1 := HK1.out.size
  have tw1 : IntKind.u64.wrap (r.next : Int) = r.next := u64_nat _ (by omega)
  have tw2 : IntKind.u64.wrap (r.ver : Int) = r.ver := u64_nat _ (by omega)
  refine region_parts_all (by kernel_rfl) (fun j => [some (Value.pointer (some ⟨w.heap.size, 0, none⟩)), some (.int .u32 r.next), some (.int .u64 r.next), none, some (.pointer (some ⟨w.heap.size, 1, none⟩)), some (.int .u32 r.ver), some (.int .u64 r.ver), none, none].getD j none)
    (PutR w1 w.heap.size 3 7 8 (putL r.next 4 4) (putL r.next 4 4 ++ putL r.ver 4 4)) (by kernel_rfl) (PutR.start w1) ?hops ?hend
  case hops =>
    refine ⟨?_, ?_, ?_, ?_, ?_, ?_, ?_, ?_, ?_, trivial⟩
    all_goals
      intro L V b W hL hF hR K hK
      obtain ⟨c0, c1, c2⟩ := recs3 (HB1.out.kp hR.kp (fun x => x))
    · have q1 := hL.old_ 1 (by kernel_rfl)
      simp at q1
      go_simp
      exact hK _ hR
    · have q1 := hL.depv hF 0 10 _ rfl (by kernel_rfl)
      go_simp
      exact hK _ hR
    · have q1 := hL.depv hF 1 11 _ rfl (by kernel_rfl)
      go_simp
      exact hK _ hR
    · have q1 := hL.depv hF 2 12 _ rfl (by kernel_rfl)
      have hc := Put_any r.next 4 (by omega) (by omega) W (fun _ => False) (.slice none 0 0) [] (Sl.nil _ _) (by simp)
      go_simp
      refine hc.mono ?_
      rintro e w' ⟨v, rfl, ho, hb⟩
      exact hK _ _ (hR.s1 (by decide) (by decide) (hL.notn 7 (by kernel_rfl)) (hL.notn 8 (by kernel_rfl)) v (put_own (l := []) ho (Nat.le_trans hz1 hR.kp.size)) hb)
    · have q1 := hL.old_ 1 (by kernel_rfl)
      simp at q1
      go_simp
      exact hK _ hR
    · have q1 := hL.depv hF 4 14 _ rfl (by kernel_rfl)
      go_simp
      exact hK _ hR
    · have q1 := hL.depv hF 5 15 _ rfl (by kernel_rfl)
      go_simp
      exact hK _ hR
    · have q1 := hL.depv hF 6 16 _ rfl (by kernel_rfl)
      have q2 := hL.dep 3 13 (by kernel_rfl)
      have o1 := hR.a1 (hL.isn 3 rfl (by kernel_rfl))
      have o1' : W.ownsRow w.heap.size 5 1 (V 3) (putL r.next 4 4).length (bytesV (putL r.next 4 4)) := o1
      obtain ⟨v3, hv3⟩ : ∃ v, V 3 = v := ⟨_, rfl⟩
      rw [hv3] at q2 o1'
      have hc := Put_any r.ver 4 (by omega) (by omega) W _ _ _ (Sl.of_own o1') (by simp)
      clear o1 o1' hv3
      go_simp
      refine hc.mono ?_
      rintro e w' ⟨v, rfl, ho, hb⟩
      exact hK _ _ (hR.s2 (by decide) (by decide) (hL.notn 8 (by kernel_rfl)) v (put_own ho (Nat.le_trans hz1 hR.kp.size)) hb)
    · have q2 := hL.dep 7 17 (by kernel_rfl)
      have h3 := hR.s3 (by decide) (by decide)
      have e7 : mkV (fun j => [some (Value.pointer (some ⟨w.heap.size, 0, none⟩)), some (.int .u32 r.next), some (.int .u64 r.next), none, some (.pointer (some ⟨w.heap.size, 1, none⟩)), some (.int .u32 r.ver), some (.int .u64 r.ver), none, none].getD j none) V 7 = V 7 := rfl
      rw [e7] at h3
      go_simp
      exact hK _ _ h3
  case hend =>
    intro L V W hall hfix hR
    have e0 := hfix 0 _ (by decide) rfl
    have e1 := hfix 1 _ (by decide) rfl
    have e2 := hfix 2 _ (by decide) rfl
    have e4 := hfix 4 _ (by decide) rfl
    have e5 := hfix 5 _ (by decide) rfl
    have e6 := hfix 6 _ (by decide) rfl
    have o2 := hR.a2 (hall 7 rfl (by decide))
    have e8 : V 8 = V 7 := hR.a3 (hall 8 rfl (by decide))
    have o2' : W.ownsRow w.heap.size 5 1 (V 7) (putL r.next 4 4 ++ putL r.ver 4 4).length (bytesV (putL r.next 4 4 ++ putL r.ver 4 4)) := o2
    simp only [putList_cons, putList_nil, e0, e1, e2, e4, e5, e6, e8]
    obtain ⟨v3, hv3⟩ : ∃ v, V 3 = v := ⟨_, rfl⟩
    obtain ⟨v7, hv7⟩ : ∃ v, V 7 = v := ⟨_, rfl⟩
    rw [hv7] at o2'
    rw [hv3, hv7]
    have HO := Lib.hid o2'
    have HK := Lib.hid (HK1.out.trans hR.kp (fun _ x _ => x))
    have HBK := Lib.hid (HB1.out.kp hR.kp (fun x => x))
    clear o2 o2' hR e0 e1 e2 e4 e5 e6 e8 hv3 hv7 hall hfix tw1 tw2
    obtain ⟨c0, c1, c2⟩ := recs3 HBK.out
    have tw : IntKind.u64.wrap (r.list.length : Int) = r.list.length := u64_nat _ (by omega)
    have hzW := HK.out.size
    go_simp
    go_wp2_with fail
    have hc := Put_any r.list.length 2 (by omega) (by omega) W _ _ _ (Sl.of_own HO.out) (by simp)
    refine hc.mono ?_
    rintro e w3 ⟨v, rfl, ho, hb⟩
    have HO3 := Lib.hid (put_own ho hzW)
    have HK3 := Lib.hid (HK.out.below_trans hb)
    have HB3 := Lib.hid (HBK.out.kp (Kp.of_below hb (fun _ => False)) (fun x => x))
    clear hc ho hb c0 c1 c2
    obtain ⟨c0, c1, c2⟩ := recs3 HB3.out
    go_wp2_with fail
    obtain ⟨i0, hi, hy0, hy1, hy2⟩ := info_parts info_byte
    have HLN := Lib.hid (rcB_length_le HR.out)
    have hz3 := HK3.out.size
    obtain ⟨acc, hacc⟩ : ∃ a, putL r.next 4 4 ++ putL r.ver 4 4 ++ putL r.list.length 2 2 = a := ⟨_, rfl⟩
    have HACC := Lib.hid hacc
    rw [hacc] at HO3
    have HAL : Hid (∀ k, k ≤ r.list.length → (acc ++ entsB (r.list.take k)).length ≤ 33162) := Lib.hid fun k hk => by
      have h1 := HLN.out
      have h2 : (entsB (r.list.take k)).length ≤ (entsB r.list).length := by
        have : ∀ (l : List (Nat × List UInt8)) k, (entsB (l.take k)).length ≤ (entsB l).length := by
          intro l
          induction l with
          | nil => intro k; simp [entsB]
          | cons x l ih =>
            intro k
            cases k with
            | zero => simp [entsB]
            | succ k => have := ih k; simp only [List.take_succ_cons, entsB, List.length_append]; omega
        exact this _ _
      rw [rcB_length] at h1
      rw [← HACC.out]
      simp only [List.length_append, putL_length]
      omega
    clear hacc c0 c1 c2 tw HK1 HB1 HK HBK HO hz1 hzW
    go_loopw [4, 27] (fun u i wr => ∃ k : Nat, k ≤ r.list.length ∧ i = .int .i64 k ∧ Hid (wr.ownsRow w.heap.size 5 1 u (acc ++ entsB (r.list.take k)).length (bytesV (acc ++ entsB (r.list.take k)))) ∧ Hid (Kp (fun _ => False) w wr)) (fun _ i _ => r.list.length - (intOf i).toNat)
    case atStart => exact ⟨0, Nat.zero_le _, rfl, by simpa [entsB] using HO3, HK3⟩
    case round =>
      obtain ⟨k, hk, rfl, HO, HK⟩ := hrel
      by_cases hlt : k < r.list.length
      · obtain ⟨A', c', eA, _, hx⟩ := (HL.out.kp HK.out (fun _ _ _ x => x)).out
        injection eA with eA1 eA2 eA3
        subst eA1 eA3
        obtain ⟨g, rfl, hg, hgl, hix⟩ := hx (by omega)
        obtain ⟨dv, d1, d2, d3⟩ := hix k hlt
        obtain ⟨dA, dc, rfl, hdc⟩ := d3.form
        have HD := Lib.hid d3
        rw [bytesV_length] at d2 HD
        obtain ⟨p1, p2, p3⟩ := HR.out.list.at_ hlt
        have HET := Lib.hid (entsB_take r.list k hlt)
        have hal := HAL.out k hk
        obtain ⟨ID, hID⟩ : ∃ x, r.list[k].1 = x := ⟨_, rfl⟩
        obtain ⟨DT, hDT⟩ : ∃ x, r.list[k].2 = x := ⟨_, rfl⟩
        have hEB : entB r.list[k] = putL ID 4 4 ++ (putL DT.length 2 2 ++ DT) := by rw [← hID, ← hDT]; rfl
        rw [hEB] at HET
        rw [hID] at d1 p2
        rw [hDT] at d2 p3 HD
        obtain ⟨ac, hac⟩ : ∃ a, acc ++ entsB (r.list.take k) = a := ⟨_, rfl⟩
        have HAC := Lib.hid hac
        rw [hac] at HO hal
        have tw1 : IntKind.u64.wrap (ID : Int) = ID := u64_nat _ (by omega)
        have tw2 : IntKind.u64.wrap (DT.length : Int) = DT.length := u64_nat _ (by omega)
        clear hx hix d3 hdc hID hDT hEB hac p1
        go_wp2_with fail
        obtain ⟨X, hX, HXX, HOX, HDX, HKX⟩ : ∃ X, wr.alloc (.cells #[.int .u32 ID, .slice dA DT.length dc] 119) = X ∧ Hid (Blk X wr.heap.size 119 #[.int .u32 ID, .slice dA DT.length dc]) ∧ Hid (X.ownsRow w.heap.size 5 1 u4 ac.length (bytesV ac)) ∧ Hid (Sl ok X (.slice dA DT.length dc) (bytesV DT)) ∧ Hid (Kp (fun _ => False) w X) := by
          have kx : Kp (fun _ => False) wr (wr.alloc (.cells #[.int .u32 ID, .slice dA DT.length dc] 119)) := (Kp.refl _ wr).alloc _
          exact ⟨_, rfl, Lib.hid (Blk.new _ _ _), Lib.hid (ownsRow_kp HO.out kx (fun _ _ x => x)), Lib.hid (HD.out.kp kx (fun _ _ _ x => x)), Lib.hid (HK.out.trans kx (fun _ x _ => x))⟩
        rw [hX]
        clear hX
        have hzX := HKX.out.size
        have dd := d2
        clear d1 d2
        refine region_parts_all (by kernel_rfl) (fun j => [some u4, some (.pointer (some ⟨wr.heap.size, 0, none⟩)), some (.int .u32 ID), some (.int .u64 ID), none, some (.pointer (some ⟨wr.heap.size, 1, none⟩)), some (.slice dA DT.length dc), some (.int .i64 DT.length), some (.int .u64 DT.length), none, none].getD j none)
          (PutR X w.heap.size 4 9 10 (ac ++ putL ID 4 4) (ac ++ putL ID 4 4 ++ putL DT.length 2 2)) (by kernel_rfl) (PutR.start X) ?hops2 ?hend2
        case hops2 =>
          refine ⟨?_, ?_, ?_, ?_, ?_, ?_, ?_, ?_, ?_, ?_, ?_, trivial⟩
          all_goals
            intro L V b W hL hF hR K hK
            have z0 : W.cell? ⟨wr.heap.size, 0, none⟩ = some (.int .u32 ID) := (HXX.out.kp hR.kp (fun x => x)).cell 0
            have z1 : W.cell? ⟨wr.heap.size, 1, none⟩ = some (.slice dA DT.length dc) := (HXX.out.kp hR.kp (fun x => x)).cell 1
          · have q1 := hL.old_ 4 (by kernel_rfl)
            simp at q1
            go_simp
            exact hK _ hR
          · have q1 := hL.old_ 6 (by kernel_rfl)
            simp at q1
            go_simp
            exact hK _ hR
          · have q1 := hL.depv hF 1 32 _ rfl (by kernel_rfl)
            go_simp
            exact hK _ hR
          · have q1 := hL.depv hF 2 33 _ rfl (by kernel_rfl)
            go_simp
            exact hK _ hR
          · have q1 := hL.depv hF 0 31 _ rfl (by kernel_rfl)
            have q2 := hL.depv hF 3 34 _ rfl (by kernel_rfl)
            have hc := Put_any ID 4 (by omega) (by omega) W _ _ _ (Sl.of_own (ownsRow_kp HOX.out hR.kp (fun _ _ x => x))) (by simp; omega)
            go_simp
            refine hc.mono ?_
            rintro e w' ⟨v, rfl, ho, hb⟩
            exact hK _ _ (hR.s1 (by decide) (by decide) (hL.notn 9 (by kernel_rfl)) (hL.notn 10 (by kernel_rfl)) v (put_own ho (Nat.le_trans hzX hR.kp.size)) hb)
          · have q1 := hL.old_ 6 (by kernel_rfl)
            simp at q1
            go_simp
            exact hK _ hR
          · have q1 := hL.depv hF 5 36 _ rfl (by kernel_rfl)
            go_simp
            exact hK _ hR
          · have q1 := hL.depv hF 6 37 _ rfl (by kernel_rfl)
            go_simp
            exact hK _ hR
          · have q1 := hL.depv hF 7 38 _ rfl (by kernel_rfl)
            go_simp
            exact hK _ hR
          · have q1 := hL.depv hF 8 39 _ rfl (by kernel_rfl)
            have q2 := hL.dep 4 35 (by kernel_rfl)
            have o1 := hR.a1 (hL.isn 4 rfl (by kernel_rfl))
            have o1' : W.ownsRow w.heap.size 5 1 (V 4) (ac ++ putL ID 4 4).length (bytesV (ac ++ putL ID 4 4)) := o1
            obtain ⟨v3, hv3⟩ : ∃ v, V 4 = v := ⟨_, rfl⟩
            rw [hv3] at q2 o1'
            have hc := Put_any DT.length 2 (by omega) (by omega) W _ _ _ (Sl.of_own o1') (by simp; omega)
            clear o1 o1' hv3
            go_simp
            refine hc.mono ?_
            rintro e w' ⟨v, rfl, ho, hb⟩
            exact hK _ _ (hR.s2 (by decide) (by decide) (hL.notn 10 (by kernel_rfl)) v (put_own ho (Nat.le_trans hzX hR.kp.size)) hb)
          · have q2 := hL.dep 9 40 (by kernel_rfl)
            have h3 := hR.s3 (by decide) (by decide)
            go_simp
            exact hK _ _ h3
        case hend2 =>
          intro L V W hall hfix hR
          have e0 := hfix 0 _ (by decide) rfl
          have e1 := hfix 1 _ (by decide) rfl
          have e2 := hfix 2 _ (by decide) rfl
          have e3 := hfix 3 _ (by decide) rfl
          have e5 := hfix 5 _ (by decide) rfl
          have e6 := hfix 6 _ (by decide) rfl
          have e7 := hfix 7 _ (by decide) rfl
          have e8 := hfix 8 _ (by decide) rfl
          have e10 : V 10 = V 9 := hR.a3 (hall 10 rfl (by decide))
          have o2 : W.ownsRow w.heap.size 5 1 (V 9) (ac ++ putL ID 4 4 ++ putL DT.length 2 2).length (bytesV (ac ++ putL ID 4 4 ++ putL DT.length 2 2)) := hR.a2 (hall 9 rfl (by decide))
          simp only [putList_cons, putList_nil, e0, e1, e2, e3, e5, e6, e7, e8, e10]
          obtain ⟨v4, hv4⟩ : ∃ v, V 4 = v := ⟨_, rfl⟩
          obtain ⟨v9, hv9⟩ : ∃ v, V 9 = v := ⟨_, rfl⟩
          rw [hv9] at o2
          rw [hv4, hv9]
          have HO2 := Lib.hid o2
          have HK2 := Lib.hid (HKX.out.trans hR.kp (fun _ x _ => x))
          have z1 : W.cell? ⟨wr.heap.size, 1, none⟩ = some (.slice dA DT.length dc) := (HXX.out.kp hR.kp (fun x => x)).cell 1
          have HD2 := Lib.hid (HDX.out.kp hR.kp (fun _ _ _ x => x))
          have hzW := HK2.out.size
          obtain ⟨pre, hpre⟩ : ∃ a, ac ++ putL ID 4 4 ++ putL DT.length 2 2 = a := ⟨_, rfl⟩
          have hpl : pre.length = ac.length + 6 := by rw [← hpre]; simp
          have HPR := Lib.hid hpre
          have HPL := Lib.hid hpl
          rw [hpre] at HO2
          clear o2 hR e0 e1 e2 e3 e5 e6 e7 e8 e10 hv4 hv9 hall hfix tw1 tw2 hpre hpl
          go_simp
          have hrd := sl_reads HD2.out
          go_wp2_with (at_builtin; refine wpList_append_any _ rfl (.tmp 41) (.tmp 43) _ rfl w.heap.size 5 i0 _ 1 1 Tryz.underlying31 hi hy0 hy1 hy2 rfl (by omega) v9 pre.length (bytesV pre) rfl HO2.out W.heap.size dA DT.length dc (bytesV DT) rfl hrd (bytesV_one _) ?h1 ?h2 ?h3 ?_)
          case h1 => rw [HPL.out]; unfold maxLen; omega
          case h2 => rw [HPL.out]; omega
          case h3 => exact hzW
          intro v5 w5 ho5 hg5 _
          have HO5 : Hid (w5.ownsRow w.heap.size 5 1 v5 (acc ++ entsB (r.list.take (k + 1))).length (bytesV (acc ++ entsB (r.list.take (k + 1))))) := Lib.hid (by
            have e : acc ++ entsB (r.list.take (k + 1)) = pre ++ DT := by
              rw [HET.out, ← HPR.out, ← HAC.out]
              simp only [List.append_assoc]
            rw [e, bytesV_append, List.length_append]
            exact ho5)
          have HK5 : Hid (Kp (fun _ => False) w w5) := Lib.hid (HK2.out.trans (kp_own HO2.out hg5) (fun b hb hlt => by omega))
          clear ho5 hg5 hrd z1
          go_wp2
          go_roundw
          case rel => exact ⟨k + 1, by omega, by go_num, HO5, HK5⟩
          case measure => simp [intOf]; omega
      · obtain rfl : k = r.list.length := by omega
        go_wp2
        go_ret2
        refine ⟨_, rfl, ?_, HK.out.below⟩
        have e : rcB r = acc ++ entsB (r.list.take r.list.length) := by
          rw [List.take_length, ← HACC.out]
          unfold rcB
          simp only [List.append_assoc]
        rw [e]
        exact Sl.of_own HO.out
end Go.Proofs.YtnaphhfmccbamaaGreatDoor

namespace Go.Proofs.YtnaphhfmccbamaaGreatDoor
open Go.RowKit

/-- A reader behind a pointer to block rb: the bytes that are left. -/
structure RdAt (ok : Nat → Prop) (w : World) (rb : Nat) (l : List UInt8) : Prop where
  out : ∃ bv, Blk w rb 206 #[bv, .bool false] ∧ Sl ok w bv (bytesV l)
section
variable {ok S : Nat → Prop} {w w' : World} {rb : Nat} {l : List UInt8}
theorem RdAt.kp (h : RdAt ok w rb l) (k : Kp S w w') (h1 : ¬ S rb) (hs : ∀ b, ok b → b < w.heap.size → ¬ S b) : RdAt ok w' rb l := by
  obtain ⟨bv, hb, hv⟩ := h.out
  exact ⟨bv, hb.kp k h1, hv.kp k hs⟩
theorem RdAt.lt (h : RdAt ok w rb l) : rb < w.heap.size := by
  obtain ⟨bv, hb, hv⟩ := h.out
  exact hb.lt
end
theorem Sl.behind {ok : Nat → Prop} {w : World} {A : Option Addr} {n m c : Nat} {xs ys : List Value} (h : Sl ok w (.slice A (n + m) c) (xs ++ ys)) (hx : xs.length = n) (hy : ys.length = m) (_hc : ¬ c = n) : Sl ok w (.slice (A.map (·.add n)) m (c - n)) ys := by
  obtain ⟨A', c', e, hcc, hx'⟩ := h.out
  injection e with e1 e2 e3
  subst e1 e3
  rw [List.length_append, hx, hy] at hcc
  refine ⟨_, _, by rw [hy], by rw [hy]; omega, fun h0 => ?_⟩
  obtain ⟨b, o, rfl, hb, hlt, hi⟩ := hx' (by rw [List.length_append]; omega)
  refine ⟨b, o + n, ?_, hb, hlt, fun i u hu => ?_⟩
  · unfold Addr.add
    by_cases hn : n = 0
    · simp [hn]
    · simp [hn]
  · rw [Nat.add_assoc]
    refine hi (n + i) u ?_
    rw [List.getElem?_append_right (by omega), hx, show n + i - n = i by omega]
    exact hu
theorem Sl.ahead {ok : Nat → Prop} {w : World} {A : Option Addr} {n m c : Nat} {xs ys : List Value} (h : Sl ok w (.slice A (n + m) c) (xs ++ ys)) (hx : xs.length = n) : Sl ok w (.slice A n c) xs := by
  obtain ⟨A', c', e, hcc, hx'⟩ := h.out
  injection e with e1 e2 e3
  subst e1 e3
  rw [List.length_append, hx] at hcc
  refine ⟨_, _, by rw [hx], by rw [hx]; omega, fun h0 => ?_⟩
  obtain ⟨b, o, rfl, hb, hlt, hi⟩ := hx' (by rw [List.length_append]; omega)
  exact ⟨b, o, rfl, hb, hlt, fun i u hu => hi i u (by rw [List.getElem?_append_left (List.getElem?_eq_some_iff.1 hu).1]; exact hu)⟩

set_option maxRecDepth 100000 in
theorem next_ok (x n : Nat) (h1 : 1 ≤ n) (h2 : n ≤ 4) (hx : x < 256 ^ n) (rest : List UInt8) (w : World) (ok : Nat → Prop) (rb : Nat) (h : RdAt ok w rb (putL x n n ++ rest)) (hok : ¬ ok rb) (hm : rest.length ≤ 1000000) :
    Calls Tryz.prog 125 #[.pointer (some ⟨rb, 0, none⟩), .int .i64 n] w fun e w' => e = .returned (.int .u32 x) ∧ RdAt ok w' rb rest ∧ Kp (fun b => b = rb) w w' := by
  obtain ⟨bv, hb, hv⟩ := h.out
  have hx32 : x < 4294967296 := Nat.lt_of_lt_of_le hx (by
    calc 256 ^ n ≤ 256 ^ 4 := Nat.pow_le_pow_right (by omega) h2
      _ = 4294967296 := by decide)
  obtain ⟨A, c, rfl, hc⟩ := hv.form
  have hlen : (bytesV (putL x n n ++ rest)).length = n + rest.length := by simp
  rw [hlen] at hb hv hc
  have hG := Get_ok (putL x n n ++ rest) 0 n h1 (by omega) (by simp) (by simp; omega) w ok _ hv
  rw [getL_put x n hx rest] at hG
  have HG : Hid (Calls Tryz.prog 104 #[.slice A (n + rest.length) c, .int .i64 0, .int .i64 n] w fun e w' => e = .returned (.tuple #[.int .u64 x, .int .i64 0]) ∧ w = w') := Lib.hid hG
  have HV := Lib.hid hv
  have HB := Lib.hid hb
  have HOK := Lib.hid hok
  have hlt := hb.lt
  have c0 : w.cell? ⟨rb, 0, none⟩ = some (.slice A (n + rest.length) c) := hb.cell 0
  have c1 : w.cell? ⟨rb, 1, none⟩ = some (.bool false) := hb.cell 1
  have f0 := hb.frozen 0
  have f1 := hb.frozen 1
  have tw : IntKind.u32.wrap (x : Int) = x := by rw [IntKind.wrap_u32]; omega
  clear h hG hv hb hlen hok
  have fin : ∀ (bv' : Value), Sl ok w bv' (bytesV rest) → Hid (RdAt ok ((w.setCell ⟨rb, 1, none⟩ (.bool false)).setCell ⟨rb, 0, none⟩ bv') rb rest ∧ Kp (fun b => b = rb) w ((w.setCell ⟨rb, 1, none⟩ (.bool false)).setCell ⟨rb, 0, none⟩ bv')) := fun bv' hs => Lib.hid (by
    have k : Kp (fun b => b = rb) w ((w.setCell ⟨rb, 1, none⟩ (.bool false)).setCell ⟨rb, 0, none⟩ bv') := Kp.set_ (S := fun b => b = rb) (Kp.set_ (S := fun b => b = rb) (Kp.refl _ w) (.inl rfl) _) (.inl rfl) _
    refine ⟨⟨bv', (HB.out.set_ 1 _).set_ 0 _, hs.kp k (fun b hb hlt e => ?_)⟩, k⟩
    subst e
    exact HOK.out hb)
  have FIN := Lib.hid fin
  clear fin
  by_cases hcn : c = n
  · have hr0 : rest = [] := List.eq_nil_of_length_eq_zero (by omega)
    subst hr0
    have HS : Hid (Sl ok w (.slice A 0 0) (bytesV [])) := Lib.hid ⟨A, 0, rfl, Nat.le_refl _, fun h => absurd h (by simp [bytesV])⟩
    subst hcn
    have HG' : Hid (Calls Tryz.prog 104 #[.slice A c c, .int .i64 0, .int .i64 c] w fun e w' => e = .returned (.tuple #[.int .u64 x, .int .i64 0]) ∧ w = w') := HG
    have c0' : w.cell? ⟨rb, 0, none⟩ = some (.slice A c c) := c0
    clear c0 HG HV HB
    go_enter Tryz.func125, Tryz.ntmps125
    go_wp2_with fail
    refine HG'.out.mono ?_
    rintro e w' ⟨rfl, rfl⟩
    go_wp2_with fail
    go_ret
    exact ⟨rfl, (FIN.out _ HS.out).out⟩
  · have HS := Lib.hid ((show Sl ok w (.slice A (n + rest.length) c) (bytesV (putL x n n) ++ bytesV rest) by rw [← bytesV_append]; exact HV.out).behind (by simp) (by simp) hcn)
    go_enter Tryz.func125, Tryz.ntmps125
    go_wp2_with fail
    refine HG.out.mono ?_
    rintro e w' ⟨rfl, rfl⟩
    go_wp2_with fail
    go_ret
    exact ⟨rfl, (FIN.out _ HS.out).out⟩

set_option maxRecDepth 100000 in
set_option maxHeartbeats 1000000 in
theorem data_ok (d rest : List UInt8) (w : World) (ok : Nat → Prop) (rb : Nat) (h : RdAt ok w rb (d ++ rest)) (hok : ¬ ok rb) (hd : d.length ≤ 100000) (hm : rest.length ≤ 1000000) :
    Calls Tryz.prog 126 #[.pointer (some ⟨rb, 0, none⟩), .int .i64 d.length] w fun e w' => ∃ dv, e = .returned dv ∧ Sl (fun b => w.heap.size ≤ b) w' dv (bytesV d) ∧ RdAt ok w' rb rest ∧ Kp (fun b => b = rb) w w' := by
  obtain ⟨bv, hb, hv⟩ := h.out
  obtain ⟨A, c, rfl, hc⟩ := hv.form
  have hlen : (bytesV (d ++ rest)).length = d.length + rest.length := by simp
  rw [hlen] at hb hv hc
  obtain ⟨n, hn⟩ : ∃ n, d.length = n := ⟨_, rfl⟩
  rw [hn] at hb hv hc hd ⊢
  have HV : Hid (Sl ok w (.slice A (n + rest.length) c) (bytesV d ++ bytesV rest)) := Lib.hid (by rw [← bytesV_append]; exact hv)
  have HB := Lib.hid hb
  have HOK := Lib.hid hok
  have hlt := hb.lt
  have HN := Lib.hid hn
  have c0 : w.cell? ⟨rb, 0, none⟩ = some (.slice A (n + rest.length) c) := hb.cell 0
  have c1 : w.cell? ⟨rb, 1, none⟩ = some (.bool false) := hb.cell 1
  have f1 := hb.frozen 1
  have t1 : decide ((n : Int) + (rest.length : Int) < (n : Int)) = false := decide_eq_false (by omega)
  obtain ⟨W1, hW1, HB1, HV1, HK1⟩ : ∃ W1, w.setCell ⟨rb, 1, none⟩ (.bool false) = W1 ∧ Hid (Blk W1 rb 206 #[.slice A (n + rest.length) c, .bool false]) ∧ Hid (Sl ok W1 (.slice A (n + rest.length) c) (bytesV d ++ bytesV rest)) ∧ Hid (Kp (fun b => b = rb) w W1) := by
    have k : Kp (fun b => b = rb) w (w.setCell ⟨rb, 1, none⟩ (.bool false)) := Kp.set_ (S := fun b => b = rb) (Kp.refl _ w) (.inl rfl) _
    exact ⟨_, rfl, Lib.hid (hb.set_ 1 _), Lib.hid (HV.out.kp k (fun b hbo _ e => by subst e; exact HOK.out hbo)), Lib.hid k⟩
  have d0 : W1.cell? ⟨rb, 0, none⟩ = some (.slice A (n + rest.length) c) := HB1.out.cell 0
  have d1 : W1.cell? ⟨rb, 1, none⟩ = some (.bool false) := HB1.out.cell 1
  have HC : Hid (∀ W, Sl ok W (.slice A n c) (bytesV d) → Calls Tryz.prog 101 #[.slice A n c] W fun e w' => ∃ r, e = .returned r ∧ Sl (fun b => W.heap.size ≤ b) w' r (bytesV d) ∧ Below W.heap.size W w') := Lib.hid fun W hW => clone_bytes ok _ _ W hW (bytesV_one _) (by rw [bytesV_length, HN.out]; omega)
  clear h hv hb hlen hok hn HV
  go_enter Tryz.func126, Tryz.ntmps126
  go_wp2_with fail
  have HA := Lib.hid (HV1.out.ahead (by rw [bytesV_length]; exact HN.out))
  refine (HC.out W1 HA.out).mono ?_
  rintro e w2 ⟨dv, rfl, hs, hb2⟩
  have k2 := Kp.of_below hb2 (fun _ => False)
  have HS2 := Lib.hid hs
  have HB2 := Lib.hid (HB1.out.kp k2 (fun x => x))
  have HV2 := Lib.hid (HV1.out.kp k2 (fun _ _ _ x => x))
  have HK2 : Hid (Kp (fun b => b = rb) w w2) := Lib.hid (HK1.out.trans k2 (fun _ x _ => x.elim))
  have hz := HK1.out.size
  have b0 : w2.cell? ⟨rb, 0, none⟩ = some (.slice A (n + rest.length) c) := HB2.out.cell 0
  have f0 := HB2.out.frozen 0
  have hlt2 := HB2.out.lt
  clear hs hb2 k2 hW1 c0 c1 f1 d0 d1
  have FIN : Hid (∀ bv', Sl ok w2 bv' (bytesV rest) → Hid (Sl (fun b => w.heap.size ≤ b) (w2.setCell ⟨rb, 0, none⟩ bv') dv (bytesV d) ∧ RdAt ok (w2.setCell ⟨rb, 0, none⟩ bv') rb rest ∧ Kp (fun b => b = rb) w (w2.setCell ⟨rb, 0, none⟩ bv'))) := Lib.hid fun bv' hs => Lib.hid (by
    have k : Kp (fun b => b = rb) w2 (w2.setCell ⟨rb, 0, none⟩ bv') := Kp.set_ (S := fun b => b = rb) (Kp.refl _ w2) (.inl rfl) _
    have hr := HB1.out.lt
    exact ⟨(HS2.out.kp k (fun b hb _ => by omega)).mono (fun b hb _ => by omega), ⟨bv', HB2.out.set_ 0 _, hs.kp k (fun b hb hlt e => by subst e; exact HOK.out hb)⟩, HK2.out.trans k (fun _ x _ => x)⟩)
  by_cases hcn : c = n
  · have hr0 : rest = [] := List.eq_nil_of_length_eq_zero (by omega)
    subst hr0
    have HS : Hid (Sl ok w2 (.slice A 0 0) (bytesV [])) := Lib.hid ⟨A, 0, rfl, Nat.le_refl _, fun h => absurd h (by simp [bytesV])⟩
    subst hcn
    have b0' : w2.cell? ⟨rb, 0, none⟩ = some (.slice A c c) := b0
    clear b0 HV2 HB2 HB1 HV1 HA HC
    go_wp2_with fail
    go_ret
    exact ⟨_, rfl, (FIN.out _ HS.out).out⟩
  · have HS := Lib.hid (HV2.out.behind (by rw [bytesV_length]; exact HN.out) (by simp) hcn)
    go_wp2_with fail
    go_ret
    exact ⟨_, rfl, (FIN.out _ HS.out).out⟩
end Go.Proofs.YtnaphhfmccbamaaGreatDoor

namespace Go.Proofs.YtnaphhfmccbamaaGreatDoor
open Go.RowKit

/-- At ia the element is laid in a block of its own, at ip it is appended, at is the field is stored; iv is where a value of the element is found on the way. -/
structure AppX (ex : Nat → Prop) (X : World) (base sb : Nat) (T e : TypeId) (sz : Nat) (st : Value → Array Value) (lv : Value) (k : Nat) (xs : List Value) (nw : Value → List Value) (iv ia ip is_ : Nat) (L : Nat → Prop) (V : Nat → Value) (W : World) : Prop where
  kp : Kp (fun b => b = sb ∨ lv.ownBlock = some b ∨ ex b) X W
  al : L ia → ∃ n, V ia = .slice (some ⟨n, 0, none⟩) 1 1 ∧ X.heap.size ≤ n ∧ (¬ L ip → Blk W n e (nw (V iv)).toArray)
  own : ¬ L ip → W.ownsRow base e sz lv k xs
  own2 : L ip → W.ownsRow base e sz (V ip) (k + 1) (xs ++ nw (V iv))
  st1 : ¬ L is_ → Blk W sb T (st lv)
  st2 : L is_ → Blk W sb T (st (V ip))

section
variable {ex : Nat → Prop} {X W W' : World} {base sb : Nat} {T e : TypeId} {sz : Nat} {st : Value → Array Value} {lv : Value} {k : Nat} {xs : List Value} {nw : Value → List Value} {iv ia ip is_ : Nat} {L : Nat → Prop} {V : Nat → Value}
theorem AppX.start (h1 : X.ownsRow base e sz lv k xs) (h2 : Blk X sb T (st lv)) (V : Nat → Value) : AppX ex X base sb T e sz st lv k xs nw iv ia ip is_ (fun _ => False) V X.drew := by
  refine ⟨(Kp.refl _ X).drew, fun h => h.elim, fun _ => ownsRow_kp (S := fun _ => False) h1 ((Kp.refl _ X).drew) (fun _ _ x => x), fun h => h.elim, fun _ => h2.drew, fun h => h.elim⟩
theorem AppX.below (h : AppX ex X base sb T e sz st lv k xs nw iv ia ip is_ L V W) (hb : Below W.heap.size W W') : AppX ex X base sb T e sz st lv k xs nw iv ia ip is_ L V W' := by
  have kk := Kp.of_below hb (fun _ => False)
  refine ⟨h.kp.trans kk (fun _ x _ => x.elim), fun hl => ?_, fun hl => ownsRow_kp (h.own hl) kk (fun _ _ x => x), fun hl => ownsRow_kp (h.own2 hl) kk (fun _ _ x => x), fun hl => (h.st1 hl).kp kk (fun x => x), fun hl => (h.st2 hl).kp kk (fun x => x)⟩
  obtain ⟨n, e1, h1, h2⟩ := h.al hl
  exact ⟨n, e1, h1, fun hp => (h2 hp).kp kk (fun x => x)⟩
theorem AppX.call (h : AppX ex X base sb T e sz st lv k xs nw iv ia ip is_ L V W) (n1 : iv ≠ ia) (n2 : iv ≠ ip) (n3 : iv ≠ is_) (hia : ¬ L ia) (hip : ¬ L ip) (v : Value) (hb : Below W.heap.size W W') : AppX ex X base sb T e sz st lv k xs nw iv ia ip is_ (fun j => L j ∨ j = iv) (upd V iv v) W' := by
  have h' := h.below hb
  refine ⟨h'.kp, fun hl => absurd (hl.resolve_right (fun e => n1 e.symm)) hia, fun _ => h'.own hip, fun hl => absurd (hl.resolve_right (fun e => n2 e.symm)) hip, fun hl => h'.st1 (fun x => hl (.inl x)), fun hl => ?_⟩
  rw [upd_ne _ _ (Ne.symm n2)]
  exact h'.st2 (hl.resolve_right (fun e => n3 e.symm))
theorem AppX.alloc (h : AppX ex X base sb T e sz st lv k xs nw iv ia ip is_ L V W) (n1 : iv ≠ ia) (n2 : ip ≠ ia) (n3 : is_ ≠ ia) (hip : ¬ L ip) (his : ¬ L is_) :
    AppX ex X base sb T e sz st lv k xs nw iv ia ip is_ (fun j => L j ∨ j = ia) (upd V ia (.slice (some ⟨W.heap.size, 0, none⟩) 1 1)) (W.alloc (.cells (nw (V iv)).toArray e)) := by
  have hX := h.kp.size
  have kk : Kp (fun _ => False) W (W.alloc (.cells (nw (V iv)).toArray e)) := (Kp.refl _ W).alloc _
  refine ⟨h.kp.alloc _, fun _ => ⟨W.heap.size, upd_same _ _ _, hX, fun _ => ?_⟩, fun _ => ownsRow_kp (h.own hip) kk (fun _ _ x => x), fun hl => absurd (hl.resolve_right n2) hip, fun _ => (h.st1 his).kp kk (fun x => x), fun hl => absurd (hl.resolve_right n3) his⟩
  rw [upd_ne _ _ n1]
  exact Blk.at_top rfl
theorem AppX.app (h : AppX ex X base sb T e sz st lv k xs nw iv ia ip is_ L V W) (n1 : iv ≠ ip) (n2 : ia ≠ ip) (n3 : is_ ≠ ip) (_hip : ¬ L ip) (his : ¬ L is_) (hne : ∀ b, lv.ownBlock = some b → b ≠ sb) (u : Value) (hg : W.grownBy W' lv.ownBlock) (hown : W'.ownsRow base e sz u (k + 1) (xs ++ nw (V iv))) :
    AppX ex X base sb T e sz st lv k xs nw iv ia ip is_ (fun j => L j ∨ j = ip) (upd V ip u) W' := by
  have kk := kp_of_grown hg
  refine ⟨h.kp.trans kk (fun b hb _ => .inr (.inl hb.symm)), fun hl => ?_, fun hl => absurd (Or.inr rfl) hl, fun _ => ?_, fun _ => (h.st1 his).kp kk (fun e => (hne _ e.symm) rfl), fun hl => absurd (hl.resolve_right n3) his⟩
  · obtain ⟨n, e1, h1, _⟩ := h.al (hl.resolve_right n2)
    exact ⟨n, by rw [upd_ne _ _ n2]; exact e1, h1, fun x => absurd (Or.inr rfl) x⟩
  · rw [upd_same, upd_ne _ _ n1]
    exact hown
theorem AppX.store (h : AppX ex X base sb T e sz st lv k xs nw iv ia ip is_ L V W) (n1 : iv ≠ is_) (n2 : ia ≠ is_) (n3 : ip ≠ is_) (hip : L ip) (his : ¬ L is_) (hb : sb < base) (fi : Nat) (hst : ∀ u, (st lv).setIfInBounds fi u = st u) (q : Value) :
    AppX ex X base sb T e sz st lv k xs nw iv ia ip is_ (fun j => L j ∨ j = is_) (upd V is_ q) (W.setCell ⟨sb, fi, none⟩ (V ip)) := by
  have kk : Kp (fun b => b = sb) W (W.setCell ⟨sb, fi, none⟩ (V ip)) := Kp.set_ (S := fun b => b = sb) (Kp.refl _ W) (.inl rfl) _
  refine ⟨h.kp.trans kk (fun b hb _ => .inl hb), fun hl => ?_, fun hl => absurd (Or.inl hip) hl, fun _ => ?_, fun hl => absurd (Or.inr rfl) hl, fun _ => ?_⟩
  · obtain ⟨n, e1, h1, _⟩ := h.al (hl.resolve_right n2)
    exact ⟨n, by rw [upd_ne _ _ n2]; exact e1, h1, fun x => absurd (Or.inl hip) x⟩
  · rw [upd_ne _ _ n3, upd_ne _ _ n1]
    have ho := h.own2 hip
    refine ownsRow_kp ho kk (fun b hbo e => ?_)
    obtain ⟨g, cap, hv, hg, _⟩ := ho.form (by omega)
    rw [hv] at hbo
    have hbo' : some g = some b := hbo
    injection hbo' with hbo'
    omega
  · rw [upd_ne _ _ n3]
    have := (h.st1 his).set_ fi (V ip)
    rw [hst] at this
    exact this
theorem AppX.callx (h : AppX ex X base sb T e sz st lv k xs nw iv ia ip is_ L V W) (hip : ¬ L ip) (his : ¬ L is_) (h1 : ¬ ex sb) (h2 : ∀ b, lv.ownBlock = some b → ¬ ex b) (h3 : ∀ b, ex b → b < X.heap.size) (kk : Kp ex W W') : AppX ex X base sb T e sz st lv k xs nw iv ia ip is_ L V W' := by
  refine ⟨h.kp.trans kk (fun b hb _ => .inr (.inr hb)), fun hl => ?_, fun hl => ownsRow_kp (h.own hl) kk h2, fun hl => absurd hl hip, fun hl => (h.st1 hl).kp kk h1, fun hl => absurd hl his⟩
  obtain ⟨n, e1, h4, h5⟩ := h.al hl
  exact ⟨n, e1, h4, fun hp => (h5 hp).kp kk (fun x => by have := h3 _ x; omega)⟩
theorem AppX.put_ (h : AppX ex X base sb T e sz st lv k xs nw iv ia ip is_ L V W) (i : Nat) (v : Value) (n1 : ia ≠ i) (n2 : ip ≠ i) (n3 : is_ ≠ i) (n4 : iv = i → ¬ L ia ∧ ¬ L ip) : AppX ex X base sb T e sz st lv k xs nw iv ia ip is_ (fun j => L j ∨ j = i) (upd V i v) W := by
  have r : ∀ j, j ≠ i → ((L j ∨ j = i) ↔ L j) := fun j hj => ⟨fun h => h.resolve_right hj, .inl⟩
  by_cases hv : iv = i
  · obtain ⟨m1, m2⟩ := n4 hv
    refine ⟨h.kp, fun hl => absurd ((r _ n1).1 hl) m1, fun hl => h.own (fun x => hl (.inl x)), fun hl => absurd ((r _ n2).1 hl) m2, fun hl => h.st1 (fun x => hl (.inl x)), fun hl => ?_⟩
    rw [upd_ne _ _ n2]
    exact h.st2 ((r _ n3).1 hl)
  · refine ⟨h.kp, fun hl => ?_, fun hl => h.own (fun x => hl (.inl x)), fun hl => ?_, fun hl => h.st1 (fun x => hl (.inl x)), fun hl => ?_⟩
    · obtain ⟨n, e1, h4, h5⟩ := h.al ((r _ n1).1 hl)
      refine ⟨n, by rw [upd_ne _ _ n1]; exact e1, h4, fun hp => ?_⟩
      rw [upd_ne _ _ hv]
      exact h5 (fun x => hp (.inl x))
    · rw [upd_ne _ _ n2, upd_ne _ _ hv]
      exact h.own2 ((r _ n2).1 hl)
    · rw [upd_ne _ _ n2]
      exact h.st2 ((r _ n3).1 hl)
end
end Go.Proofs.YtnaphhfmccbamaaGreatDoor
