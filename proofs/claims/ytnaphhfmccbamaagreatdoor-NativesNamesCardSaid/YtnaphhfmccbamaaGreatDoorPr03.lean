/- Contracts of package num (layer 2): right, Put, Get, at one to eight bytes. Record stores in plain Lean: their bytes, which may be, and what reading a number of them tells. A region that draws its order, every value of which is known ahead and which keeps one fact on the world: it is walked operation by operation, not order by order. Regions that draw their order, where the values too are found on the way. Regions that draw their order, where most values are known ahead and only those at a few free places are found on the way. What a region that appends one element to a slice in a struct's field keeps, operation by operation. -/
import Derived.Test.YtnaphhfmccbamaaGreatDoorPr01
namespace Go.Proofs.YtnaphhfmccbamaaGreatDoor
open Go.RowKit

theorem right_any (n : Int) (w : World) (h1 : 1 ≤ n) (h2 : n ≤ 8) : Calls Tryz.prog 131 #[.int .i64 n] w fun e w' => e = .returned (.bool true) ∧ w = w' := by
  have t1 : decide (1 ≤ n) = true := decide_eq_true h1
  have t2 : decide (n ≤ 8) = true := decide_eq_true h2
  go_enter Tryz.func131, Tryz.ntmps131
  go_wp2
  go_ret
  exact ⟨rfl, rfl⟩

def putL (x n k : Nat) : List UInt8 := (List.range k).map fun i => UInt8.ofNat (x / 256 ^ (n - 1 - i))
theorem putL_succ (x n k : Nat) : putL x n (k + 1) = putL x n k ++ [UInt8.ofNat (x / 256 ^ (n - 1 - k))] := by simp [putL, List.range_succ]
@[simp] theorem putL_length (x n k : Nat) : (putL x n k).length = k := by simp [putL]
theorem put_byte (x m : Nat) : (x : Int) / 2 ^ (8 * m) % 256 = ((UInt8.ofNat (x / 256 ^ m)).toNat : Int) := by
  have h : (2 : Nat) ^ (8 * m) = 256 ^ m := by rw [Nat.pow_mul]
  have h2 : (2 : Int) ^ (8 * m) = ((2 ^ (8 * m) : Nat) : Int) := (Int.natCast_pow 2 (8 * m)).symm
  rw [h2, ← Int.natCast_ediv, h]
  have h3 : (UInt8.ofNat (x / 256 ^ m)).toNat = x / 256 ^ m % 256 := UInt8.toNat_ofNat'
  rw [h3, Int.natCast_emod]
  rfl
theorem put_step {base : Nat} (x n k : Nat) {xs : List Value} {v : Value} {w : World}
    (h : w.ownsRow base 5 1 v (xs.length + k + 1) (xs ++ (bytesV (putL x n k) ++ [Value.int .u8 ((x : Int) / 2 ^ (8 * (n - 1 - k)) % 256)]))) :
    Ap base 5 w v (xs ++ bytesV (putL x n (k + 1))) ∧ w.ownsRow base 5 1 v (xs.length + (k + 1)) (xs ++ bytesV (putL x n (k + 1))) := by
  have e : xs ++ (bytesV (putL x n k) ++ [Value.int .u8 ((x : Int) / 2 ^ (8 * (n - 1 - k)) % 256)]) = xs ++ bytesV (putL x n (k + 1)) := by
    rw [putL_succ, bytesV_append, put_byte]; rfl
  have l : xs.length + k + 1 = xs.length + (k + 1) := by omega
  rw [e, l] at h
  exact ⟨.inr (by rw [show (xs ++ bytesV (putL x n (k + 1))).length = xs.length + (k + 1) by simp]; exact h), h⟩
theorem Sl.recap {ok : Nat → Prop} {w : World} {A : Option Addr} {c : Nat} {xs : List Value} (h : Sl ok w (.slice A xs.length c) xs) : Sl ok w (.slice A xs.length xs.length) xs := by
  obtain ⟨A', c', e, _, hx⟩ := h.out
  injection e with e1 e2 e3
  subst e1
  exact ⟨A, xs.length, rfl, Nat.le_refl _, hx⟩

set_option maxRecDepth 100000 in
theorem Put_any (x n : Nat) (h1 : 1 ≤ n) (h2 : n ≤ 8) (w : World) (ok : Nat → Prop) (v : Value) (xs : List Value) (hv : Sl ok w v xs) (hm : xs.length ≤ 16777216) :
    Calls Tryz.prog 147 #[v, .int .u64 x, .int .i64 n] w fun e w' => ∃ r, e = .returned r ∧ w'.ownsRow w.heap.size 5 1 r (xs.length + n) (xs ++ bytesV (putL x n n)) ∧ Below w.heap.size w w' := by
  obtain ⟨i0, hi, hz0, hz1, hz2⟩ := info_parts info_byte
  obtain ⟨A, c, rfl, hc⟩ := hv.form
  go_enter Tryz.func147, Tryz.ntmps147
  go_wp2_with fail
  refine (right_any _ _ (by omega) (by omega)).mono ?_
  rintro e w' ⟨rfl, rfl⟩
  go_wp2_with fail
  go_loopw [0, 19] (fun v i wr => ∃ k : Nat, k ≤ n ∧ i = .int .i64 k ∧ Hid (Ap w.heap.size 5 wr v (xs ++ bytesV (putL x n k))) ∧ Hid (0 < k → wr.ownsRow w.heap.size 5 1 v (xs.length + k) (xs ++ bytesV (putL x n k))) ∧ Below w.heap.size w wr) (fun _ i _ => n - (intOf i).toNat)
  case atStart => exact ⟨0, Nat.zero_le _, rfl, Lib.hid (by simpa [putL, bytesV] using (show Ap w.heap.size 5 w _ xs from .inl ⟨A, ok, rfl, hv.recap⟩)), Lib.hid (fun h => absurd h (by omega)), Below.refl _ _⟩
  case round =>
    obtain ⟨k, hk, rfl, HA, HO, hbl⟩ := hrel
    by_cases hlt : k < n
    · have hap := HA.out.alloc (.cells #[Value.int .u8 ((x : Int) / 2 ^ (8 * (n - 1 - k)) % 256)] 5)
      have hlen : (xs ++ bytesV (putL x n k)).length = xs.length + k := by simp
      have Hlen := Lib.hid hlen
      have hsz := hbl.size
      clear hlen
      go_wp2_with (at_builtin; refine wpList_append_ap _ rfl (.tmp 22) (.tmp 32) _ rfl w.heap.size 5 i0 _ 1 Tryz.underlying31 hi hz0 hz1 hz2 rfl _ (xs ++ bytesV (putL x n k)) rfl hap ⟨wr.heap.size, 0, none⟩ 1 1 [Value.int .u8 ((x : Int) / 2 ^ (8 * (n - 1 - k)) % 256)] rfl (by omega) rfl (news_one _ _ _) ?h1 ?h2 ?h3 ?h4 ?_)
      case h1 => intro u hu; simp at hu; subst hu; rfl
      case h2 => rw [Hlen.out]; unfold maxLen; omega
      case h3 => rw [Hlen.out]; omega
      case h4 => simp; omega
      intro v1 w1 hown1 hk1
      have R := put_step x n k hown1
      have hbl1 : Below w.heap.size w w1 := ((Kp.of_below hbl (fun _ => False)).alloc _).trans hk1 (fun b hb hlt => by omega) |>.below
      clear hown1 hk1 hap HA HO
      have HR1 := Lib.hid R.1
      have HR2 := Lib.hid R.2
      clear R
      go_wp2
      go_roundw
      case rel => exact ⟨k + 1, by omega, by go_num, HR1, Lib.hid fun _ => HR2.out, hbl1⟩
      case measure => simp [intOf]; omega
    · obtain rfl : k = n := by omega
      go_wp2
      go_ret
      exact ⟨_, rfl, HO.out (by omega), hbl⟩

theorem or256 (x y : Nat) (hx : x < 72057594037927936) (hy : y < 256) : bits .or .u64 ((x : Int) * 256) (y : Int) = ((x * 256 + y : Nat) : Int) := by
  have h := u64_or_nat (x * 256) y (by omega) (by omega)
  have e : x * 256 ||| y = x * 256 + y := by
    have := Nat.shiftLeft_add_eq_or_of_lt (b := y) (i := 8) (by omega) x
    rw [Nat.shiftLeft_eq] at this
    exact this.symm
  rw [e] at h
  rw [← h]
  congr 1
def getL (l : List UInt8) (at_ n : Nat) : Nat := ((l.drop at_).take n).foldl (fun a c => a * 256 + c.toNat) 0
theorem getL_zero (l : List UInt8) (at_ : Nat) : getL l at_ 0 = 0 := by simp [getL]
theorem getL_succ (l : List UInt8) (at_ k : Nat) (h : at_ + k < l.length) : getL l at_ (k + 1) = getL l at_ k * 256 + (l[at_ + k]).toNat := by
  unfold getL
  rw [List.take_succ_eq_append_getElem (by simp; omega), List.foldl_append]
  simp
theorem getL_lt (l : List UInt8) (at_ k : Nat) (h : at_ + k ≤ l.length) : getL l at_ k < 256 ^ k := by
  induction k with
  | zero => simp [getL_zero]
  | succ k ih =>
    rw [getL_succ l at_ k (by omega), Nat.pow_succ]
    have := ih (by omega)
    have := (l[at_ + k]'(by omega)).toNat_lt
    omega

set_option maxRecDepth 100000 in
theorem Get_ok (l : List UInt8) (at_ n : Nat) (h1 : 1 ≤ n) (h2 : n ≤ 8) (hfit : at_ + n ≤ l.length) (hm : l.length ≤ 16777216) (w : World) (ok : Nat → Prop) (v : Value) (hv : Sl ok w v (bytesV l)) :
    Calls Tryz.prog 104 #[v, .int .i64 at_, .int .i64 n] w fun e w' => e = .returned (.tuple #[.int .u64 (getL l at_ n), .int .i64 0]) ∧ w = w' := by
  obtain ⟨b, o, c, rfl, hc, _, hlt, hcell⟩ := hv.form_pos (by rw [bytesV_length]; omega)
  rw [bytesV_length] at hc
  rw [bytesV_length]
  have HC : Hid (∀ i (h : i < l.length), w.cell? ⟨b, o + i, none⟩ = some (.int .u8 (l[i]).toNat)) := Lib.hid fun i hi => hcell i _ (by simp [bytesV, byteV, hi])
  clear hcell hv
  have t1 : decide ((at_ : Int) < 0) = false := decide_eq_false (by omega)
  have t2 : decide (l.length < at_) = false := decide_eq_false (by omega)
  have t3 : decide ((l.length : Int) - at_ < n) = false := decide_eq_false (by omega)
  have t4 : ¬ c = at_ := by omega
  go_enter Tryz.func104, Tryz.ntmps104
  go_wp2_with fail
  refine (right_any _ _ (by omega) (by omega)).mono ?_
  rintro e w' ⟨rfl, rfl⟩
  go_wp2_with fail
  go_loop [8, 38] (fun a i => ∃ k : Nat, k ≤ n ∧ i = .int .i64 k ∧ a = .int .u64 (getL l at_ k)) (fun _ i => n - (intOf i).toNat)
  case atStart => exact ⟨0, Nat.zero_le _, rfl, by rw [getL_zero]; rfl⟩
  case round =>
    obtain ⟨k, hk, rfl, rfl⟩ := hrel
    by_cases hlt : k < n
    · obtain ⟨x, y, hx, hy, hxy, hc1⟩ : ∃ x y : Nat, x < 72057594037927936 ∧ y < 256 ∧ (getL l at_ k = x ∧ getL l at_ (k + 1) = x * 256 + y) ∧ w.cell? ⟨b, o + at_ + k, none⟩ = some (.int .u8 (y : Int)) := by
        refine ⟨getL l at_ k, (l[at_ + k]'(by omega)).toNat, ?_, UInt8.toNat_lt _, ⟨rfl, getL_succ l at_ k (by omega)⟩, ?_⟩
        · exact Nat.lt_of_lt_of_le (getL_lt l at_ k (by omega)) (Nat.pow_le_pow_right (by omega) (by omega : k ≤ 7))
        · rw [Nat.add_assoc]; exact HC.out (at_ + k) (by omega)
      rw [hxy.1]
      have HX := Lib.hid hxy
      clear hxy
      go_wp2
      go_round
      case rel => exact ⟨k + 1, by omega, by go_num, by rw [or256 x y hx hy, HX.out.2]⟩
      case measure => simp [intOf]; omega
    · obtain rfl : k = n := by omega
      go_wp2
      go_ret2
      exact ⟨rfl, rfl⟩
end Go.Proofs.YtnaphhfmccbamaaGreatDoor

namespace Go.Proofs.YtnaphhfmccbamaaGreatDoor
open Go.RowKit

structure Rc where
  next : Nat
  ver : Nat
  list : List (Nat × List UInt8)
def entB (x : Nat × List UInt8) : List UInt8 := putL x.1 4 4 ++ (putL x.2.length 2 2 ++ x.2)
def entsB : List (Nat × List UInt8) → List UInt8
  | [] => []
  | x :: l => entB x ++ entsB l
def rcB (r : Rc) : List UInt8 := putL r.next 4 4 ++ (putL r.ver 4 4 ++ (putL r.list.length 2 2 ++ entsB r.list))
def OkFrom (next : Nat) : Nat → List (Nat × List UInt8) → Prop
  | _, [] => True
  | b, x :: l => b < x.1 ∧ x.1 < next ∧ x.2.length ≤ 512 ∧ OkFrom next x.1 l
structure RcOk (r : Rc) : Prop where
  next : 1 ≤ r.next ∧ r.next < 4294967296
  ver : r.ver < 4294967296
  list : OkFrom r.next 0 r.list
  len : r.list.length ≤ 64

theorem fold_put (x n : Nat) : ∀ k, k ≤ n → (putL x n k).foldl (fun a c => a * 256 + c.toNat) 0 = x / 256 ^ (n - k) % 256 ^ k
  | 0, _ => by simp [putL, Nat.mod_one]
  | k + 1, h => by
    rw [putL_succ, List.foldl_append, fold_put x n k (by omega)]
    have h3 : (UInt8.ofNat (x / 256 ^ (n - 1 - k))).toNat = x / 256 ^ (n - 1 - k) % 256 := UInt8.toNat_ofNat'
    simp only [List.foldl_cons, List.foldl_nil, h3]
    have e : n - k = n - 1 - k + 1 := by omega
    have e2 : n - (k + 1) = n - 1 - k := by omega
    rw [e, e2, Nat.pow_succ, ← Nat.div_div_eq_div_mul, Nat.pow_succ, Nat.mul_comm (256 ^ k) 256, Nat.mod_mul]
    omega
theorem getL_put (x n : Nat) (hx : x < 256 ^ n) (rest : List UInt8) : getL (putL x n n ++ rest) 0 n = x := by
  unfold getL
  rw [List.drop_zero, List.take_append_of_le_length (by simp), List.take_of_length_le (by simp), fold_put x n n (Nat.le_refl _)]
  simp [Nat.mod_eq_of_lt hx]
theorem drop_put (x n : Nat) (rest : List UInt8) : (putL x n n ++ rest).drop n = rest := by
  simp
theorem entB_length (x : Nat × List UInt8) : (entB x).length = 6 + x.2.length := by simp [entB]; omega
theorem entsB_length_le : ∀ {l : List (Nat × List UInt8)} {nx b : Nat}, OkFrom nx b l → (entsB l).length ≤ 518 * l.length
  | [], _, _, _ => by simp [entsB]
  | x :: l, nx, b, h => by
    have := entsB_length_le h.2.2.2
    have := h.2.2.1
    simp only [entsB, List.length_append, entB_length, List.length_cons]
    omega
theorem rcB_length (r : Rc) : (rcB r).length = 10 + (entsB r.list).length := by simp [rcB]; omega
theorem rcB_length_le {r : Rc} (h : RcOk r) : (rcB r).length ≤ 33162 := by
  have := entsB_length_le h.list
  have := h.len
  rw [rcB_length]
  omega
theorem OkFrom.next_pos : ∀ {l : List (Nat × List UInt8)} {nx b k : Nat} {x : Nat × List UInt8}, OkFrom nx b l → l[k]? = some x → b < x.1 ∧ x.1 < nx ∧ x.2.length ≤ 512
  | [], _, _, _, _, _, h => by simp at h
  | y :: l, nx, b, 0, x, h, hk => by simp at hk; subst hk; exact ⟨h.1, h.2.1, h.2.2.1⟩
  | y :: l, nx, b, k + 1, x, h, hk => by
    have := OkFrom.next_pos h.2.2.2 (by simpa using hk)
    have := h.1
    exact ⟨by omega, by omega, by omega⟩
end Go.Proofs.YtnaphhfmccbamaaGreatDoor

namespace Go.Proofs.YtnaphhfmccbamaaGreatDoor
open Go.RowKit

def cntR (p : Nat → Bool) : Nat → Nat
  | 0 => 0
  | n + 1 => cntR p n + if p n then 1 else 0
theorem cntR_zero {p : Nat → Bool} {n : Nat} (h : cntR p n = 0) : ∀ i, i < n → p i = false := by
  induction n with
  | zero => intro i hi; omega
  | succ n ih =>
    simp only [cntR] at h
    intro i hi
    by_cases e : i = n
    · subst e
      cases hp : p i
      · rfl
      · rw [hp] at h; simp at h
    · exact ih (by omega) i (by omega)
theorem cntR_set {p q : Nat → Bool} {n i : Nat} (hi : i < n) (hp : p i = true) (hq : q i = false) (he : ∀ j, j ≠ i → q j = p j) : cntR q n + 1 = cntR p n := by
  induction n with
  | zero => omega
  | succ n ih =>
    simp only [cntR]
    by_cases e : i = n
    · subst e
      have hsame : ∀ m, m ≤ i → cntR q m = cntR p m := by
        intro m hm
        induction m with
        | zero => rfl
        | succ m ihm => simp only [cntR]; rw [ihm (by omega), he m (by omega)]
      rw [hsame i (Nat.le_refl _), hp, hq]
      simp
    · have := ih (by omega)
      rw [he n (fun h => e h.symm)]
      omega

section
variable {P : Program} {ops : Array Oper} {Q : Exit → Act → World → Prop} {a : Act}

/-- Every bound edge goes back, and what is written is written once, within the frame. -/
def orderly (ops : Array Oper) (size : Nat) : Bool :=
  (ops.toList.zipIdx.all fun (o, i) => (o.after.toList.all fun e => !Region.binds .any e || decide (e.on < i)) && (match o.dst with | some t => decide (t < size) | none => true)) &&
  (ops.toList.zipIdx.all fun (o, i) => ops.toList.zipIdx.all fun (u, j) => decide (i = j) || (match o.dst, u.dst with | some t, some s => decide (t ≠ s) | _, _ => true))

/-- Of the frame: the operations of L have put their values, all else is as in a. -/
structure Filled (ops : Array Oper) (V : Nat → Value) (a : Act) (L : Nat → Prop) (b : Act) : Prop where
  defers : b.defers = a.defers
  size : b.tmps.size = a.tmps.size
  put_ : ∀ (j : Nat) (o : Oper) (t : Tmp), ops[j]? = some o → o.dst = some t → L j → b.tmps[t]? = some (V j)
  old : ∀ t, (∀ (j : Nat) (o : Oper), ops[j]? = some o → o.dst = some t → ¬ L j) → b.tmps[t]? = a.tmps[t]?

theorem orderly_edge {n : Nat} (h : orderly ops n = true) {i : Nat} {o : Oper} (ho : ops[i]? = some o) {e : Edge} (he : e ∈ o.after) (hb : Region.binds .any e = true) : e.on < i := by
  simp only [orderly, Bool.and_eq_true, List.all_eq_true] at h
  have hm : (o, i) ∈ ops.toList.zipIdx := by
    rw [List.mem_zipIdx_iff_getElem?]
    simpa using ho
  have := (h.1 _ hm).1 e (by simpa using he)
  simpa [hb] using this
theorem orderly_dst {n : Nat} (h : orderly ops n = true) {i t : Nat} {o : Oper} (ho : ops[i]? = some o) (hd : o.dst = some t) : t < n := by
  simp only [orderly, Bool.and_eq_true, List.all_eq_true] at h
  have hm : (o, i) ∈ ops.toList.zipIdx := by
    rw [List.mem_zipIdx_iff_getElem?]
    simpa using ho
  have := (h.1 _ hm).2
  simpa [hd] using this
theorem orderly_ne {n : Nat} (h : orderly ops n = true) {i j t : Nat} {o u : Oper} (ho : ops[i]? = some o) (hu : ops[j]? = some u) (hd : o.dst = some t) (hd' : u.dst = some t) : i = j := by
  simp only [orderly, Bool.and_eq_true, List.all_eq_true] at h
  have hm : (o, i) ∈ ops.toList.zipIdx := by
    rw [List.mem_zipIdx_iff_getElem?]
    simpa using ho
  have hm' : (u, j) ∈ ops.toList.zipIdx := by
    rw [List.mem_zipIdx_iff_getElem?]
    simpa using hu
  have := h.2 _ hm _ hm'
  simpa [hd, hd'] using this

theorem Filled.step {V : Nat → Value} {L : Nat → Prop} {b : Act} (h : Filled ops V a L b) (ho : orderly ops a.tmps.size = true) {i : Nat} {o : Oper} (hi : ops[i]? = some o) :
    Filled ops V a (fun j => L j ∨ j = i) (b.put o.dst (V i)) := by
  cases hd : o.dst with
  | none =>
    refine ⟨h.defers, h.size, fun j u t hj ht hL => ?_, fun t ht => h.old t (fun j u hj hu hL => ht j u hj hu (.inl hL))⟩
    rcases hL with hL | rfl
    · exact h.put_ j u t hj ht hL
    · rw [hi] at hj; injection hj with hj; subst hj; rw [hd] at ht; cases ht
  | some d =>
    have hdb : d < b.tmps.size := by rw [h.size]; exact orderly_dst ho hi hd
    refine ⟨h.defers, by simp [Act.put, h.size], fun j u t hj ht hL => ?_, fun t ht => ?_⟩
    · simp only [Act.put]
      by_cases e : d = t
      · subst e
        have := orderly_ne ho hi hj hd ht
        subst this
        simp [hdb]
      · rw [Array.getElem?_setIfInBounds_ne e]
        rcases hL with hL | rfl
        · exact h.put_ j u t hj ht hL
        · rw [hi] at hj; injection hj with hj; subst hj; rw [hd] at ht; injection ht with ht; exact absurd ht e
    · simp only [Act.put]
      have e : d ≠ t := fun e => by subst e; exact ht i o hi hd (.inr rfl)
      rw [Array.getElem?_setIfInBounds_ne e]
      exact h.old t (fun j u hj hu hL => ht j u hj hu (.inl hL))

def putAll (ops : Array Oper) (V : Nat → Value) (a : Act) : Nat → Act
  | 0 => a
  | n + 1 => (putAll ops V a n).put ((ops[n]?).bind (·.dst)) (V n)
theorem putAll_filled {V : Nat → Value} (ho : orderly ops a.tmps.size = true) : ∀ n, n ≤ ops.size → Filled ops V a (fun j => j < n) (putAll ops V a n)
  | 0, _ => ⟨rfl, rfl, fun j o t _ _ h => absurd h (Nat.not_lt_zero j), fun t _ => rfl⟩
  | n + 1, hn => by
    have ih := putAll_filled (V := V) ho n (by omega)
    have hi : ops[n]? = some ops[n] := Array.getElem?_eq_getElem (by omega)
    have := ih.step ho hi
    have e : (fun j => j < n ∨ j = n) = (fun j => j < n + 1) := by funext j; apply propext; omega
    rw [e] at this
    simpa [putAll, hi] using this
theorem Filled.eq {V : Nat → Value} {L M : Nat → Prop} {b c : Act} (h : Filled ops V a L b) (k : Filled ops V a M c) (hl : ∀ j, j < ops.size → L j) (hm : ∀ j, j < ops.size → M j) : b = c := by
  have hd : b.defers = c.defers := h.defers.trans k.defers.symm
  have ht : b.tmps = c.tmps := by
    apply Array.ext_getElem?
    intro t
    by_cases e : ∃ (j : Nat) (o : Oper), ops[j]? = some o ∧ o.dst = some t
    · obtain ⟨j, o, hj, hd⟩ := e
      have hjl : j < ops.size := (Array.getElem?_eq_some_iff.1 hj).1
      rw [h.put_ j o t hj hd (hl j hjl), k.put_ j o t hj hd (hm j hjl)]
    · rw [h.old t (fun j o hj hd _ => e ⟨j, o, hj, hd⟩), k.old t (fun j o hj hd _ => e ⟨j, o, hj, hd⟩)]
  cases b; cases c
  simp only at hd ht
  rw [hd, ht]

/-- What operation i may lean on: the values of those that it comes behind; what no operation of the region has written, or what is written behind it. -/
structure Leans (ops : Array Oper) (V : Nat → Value) (a : Act) (i : Nat) (o : Oper) (L : Nat → Prop) (b : Act) : Prop where
  fresh : ¬ L i
  ready : ∀ e ∈ o.after, Region.binds .any e = true → L e.on
  down : ∀ (j : Nat) (o : Oper), ops[j]? = some o → L j → ∀ e ∈ o.after, Region.binds .any e = true → L e.on
  defers : b.defers = a.defers
  size : b.tmps.size = a.tmps.size
  before : ∀ e ∈ o.after, Region.binds .any e = true → ∀ (u : Oper) (t : Tmp), ops[e.on]? = some u → u.dst = some t → b.tmps[t]? = some (V e.on)
  old : ∀ t, (∀ (j : Nat) (u : Oper), ops[j]? = some u → u.dst = some t → ∃ e ∈ u.after, Region.binds .any e = true ∧ e.on = i) → b.tmps[t]? = a.tmps[t]?

theorem region_fixed {id : Nat} {w : World} (hm : P.follows .mixedOrders = true) (V : Nat → Value) (S : (Nat → Prop) → World → Prop) (ho : orderly ops a.tmps.size = true) (h0 : S (fun _ => False) w.drew)
    (hops : ∀ i o, ops[i]? = some o → ∀ (L : Nat → Prop) (b : Act) (W : World), Leans ops V a i o L b → S L W → ∀ K : Act → World → Prop, (∀ W', S (fun j => L j ∨ j = i) W' → K (b.put o.dst (V i)) W') →
      if Region.wanted o (yielded ops b.tmps) = true then o.wp P b W K Q else K (b.put o.dst undef) W)
    (hend : ∀ W, (∃ L : Nat → Prop, (∀ j, j < ops.size → L j) ∧ S L W) → Q .normal (putAll ops V a ops.size) W) : (Code.region id ops true).wp P Q a w := by
  refine wp_region_any hm ?_
  have key : ∀ fuel (listed : Array Bool) (b : Act) (W : World), listed.size = ops.size → cntR (fun i => !listed.getD i true) ops.size ≤ fuel → Filled ops V a (fun j => listed[j]? = some true) b → S (fun j => listed[j]? = some true) W →
      (∀ (j : Nat) (o : Oper), ops[j]? = some o → listed[j]? = some true → ∀ e ∈ o.after, Region.binds .any e = true → listed[e.on]? = some true) → wpAny P .any ops Q fuel listed b W := by
    intro fuel
    induction fuel with
    | zero =>
      intro listed b W hs hc hF hS _
      have hall := cntR_zero (Nat.le_zero.1 hc)
      refine ⟨?_, ?_⟩
      · unfold Region.ready
        rw [List.filter_eq_nil_iff]
        intro i hi
        have := hall i (by simpa using hi)
        simp only [Bool.not_eq_false'] at this
        simp [this]
      · have hall' : ∀ j, j < ops.size → listed[j]? = some true := fun j hj => by
          have := hall j hj
          simp only [Bool.not_eq_false'] at this
          rw [Array.getElem?_eq_getElem (by omega)]
          simpa [Array.getD, hs, hj] using this
        rw [hF.eq (putAll_filled ho ops.size (Nat.le_refl _)) hall' (fun j hj => hj)]
        exact hend W ⟨_, hall', hS⟩
    | succ fuel ih =>
      intro listed b W hs hc hF hS hdown
      refine ⟨fun hr => ?_, fun i hi => ?_⟩
      · -- all are listed: else the first that is not would be ready
        have hall : ∀ n, n ≤ ops.size → ∀ j, j < n → listed[j]? = some true := by
          intro n
          induction n with
          | zero => intro _ j hj; omega
          | succ n ihn =>
            intro hn j hj
            by_cases e : j = n
            · subst e
              have hjs : j < listed.size := by omega
              cases hl : listed[j] with
              | true => rw [Array.getElem?_eq_getElem hjs, hl]
              | false =>
                exfalso
                unfold Region.ready at hr
                rw [List.filter_eq_nil_iff] at hr
                have hoj : ops[j]? = some ops[j] := Array.getElem?_eq_getElem (by omega)
                refine hr j (by simp; omega) ?_
                rw [hoj]
                have hjl : listed.getD j true = false := by rw [Array.getD_eq_getD_getElem?, Array.getElem?_eq_getElem hjs, hl]; rfl
                simp only [hjl, Bool.not_false, Bool.true_and, Option.map_some, Option.getD_some]
                rw [Array.all_eq_true_iff_forall_mem]
                intro e he
                cases hb : Region.binds .any e with
                | false => rfl
                | true =>
                  have hlt := orderly_edge ho hoj he hb
                  have := ihn (by omega) e.on hlt
                  rw [Array.getD_eq_getD_getElem?, this]
                  rfl
            · exact ihn (by omega) j (by omega)
        rw [hF.eq (putAll_filled ho ops.size (Nat.le_refl _)) (fun j hj => hall ops.size (Nat.le_refl _) j hj) (fun j hj => hj)]
        exact hend W ⟨_, fun j hj => hall ops.size (Nat.le_refl _) j hj, hS⟩
      · unfold Region.ready at hi
        rw [List.mem_filter] at hi
        obtain ⟨hir, hi⟩ := hi
        have his : i < ops.size := by simpa using hir
        have hoi : ops[i]? = some ops[i] := Array.getElem?_eq_getElem his
        rw [hoi] at hi
        simp only [Bool.and_eq_true, Option.map_some, Option.getD_some] at hi
        obtain ⟨hnl, haf⟩ := hi
        have hils : i < listed.size := by omega
        have hnl' : listed[i] = false := by simpa [Array.getD, hils] using hnl
        rw [Array.all_eq_true_iff_forall_mem] at haf
        have hbef : ∀ e ∈ ops[i].after, Region.binds .any e = true → listed[e.on]? = some true := fun e he hb => by
          have := haf e he
          rw [hb] at this
          have hlt := orderly_edge ho hoi he hb
          rw [Array.getElem?_eq_getElem (by omega)]
          simpa [Array.getD, show e.on < listed.size by omega] using this
        have hlean : Leans ops V a i ops[i] (fun j => listed[j]? = some true) b := by
          refine ⟨(by rw [Array.getElem?_eq_getElem hils, hnl']; simp), hbef, hdown, hF.defers, hF.size, fun e he hb u t hu ht => hF.put_ e.on u t hu ht (hbef e he hb), fun t ht => hF.old t (fun j u hj hu hL => ?_)⟩
          obtain ⟨e, he, hb, hei⟩ := ht j u hj hu
          have := hdown j u hj hL e he hb
          rw [hei, Array.getElem?_eq_getElem hils, hnl'] at this
          cases this
        refine wpOp_step hoi (fun K' hK' => hops i ops[i] hoi _ b W hlean hS K' (fun W' hS' => hK' _ _ ?_))
        have hset : ∀ j, (listed.setIfInBounds i true)[j]? = some true ↔ (listed[j]? = some true ∨ j = i) := by
          intro j
          rw [Array.getElem?_setIfInBounds]
          by_cases e : i = j
          · subst e; simp [hils]
          · rw [if_neg e]
            constructor
            · exact .inl
            · rintro (h | h)
              · exact h
              · exact absurd h.symm e
        refine ih _ _ W' (by simpa using hs) ?_ ?_ (by rw [show (fun j => (listed.setIfInBounds i true)[j]? = some true) = (fun j => listed[j]? = some true ∨ j = i) from funext fun j => propext (hset j)]; exact hS') ?_
        · have hq := cntR_set (p := fun i => !listed.getD i true) (q := fun j => !(listed.setIfInBounds i true).getD j true) his hnl (by simp [Array.getD, hils]) (fun j hj => by
            simp only [Array.getD_eq_getD_getElem?, Array.getElem?_setIfInBounds, if_neg (Ne.symm hj)])
          omega
        · have := hF.step ho hoi
          refine ⟨this.defers, this.size, fun j u t hj ht hL => this.put_ j u t hj ht ((hset j).1 hL), fun t ht => this.old t (fun j u hj hu hL => ht j u hj hu ((hset j).2 hL))⟩
        · intro j u hj hL e he hb
          rw [hset] at hL ⊢
          rcases hL with hL | rfl
          · exact .inl (hdown j u hj hL e he hb)
          · rw [hoi] at hj; injection hj with hj; subst hj
            exact .inl (hbef e he hb)
  refine key ops.size _ a _ (by simp) ?_ ?_ (by rw [show (fun j => (Array.replicate ops.size false)[j]? = some true) = (fun _ => False) from funext fun j => propext ⟨fun h => by simp [Array.getElem?_replicate] at h, fun h => h.elim⟩]; exact h0) ?_
  · have : ∀ n, cntR (fun i => !(Array.replicate ops.size false).getD i true) n ≤ n := by
      intro n
      induction n with
      | zero => exact Nat.le_refl _
      | succ n ih => simp only [cntR]; split <;> omega
    exact this _
  · refine ⟨rfl, rfl, fun j o t _ _ h => ?_, fun t _ => rfl⟩
    simp [Array.getElem?_replicate] at h
  · intro j o _ h
    simp [Array.getElem?_replicate] at h

def AllAt (F : Nat → Oper → Prop) : Nat → List Oper → Prop
  | _, [] => True
  | n, o :: r => F n o ∧ AllAt F (n + 1) r
theorem AllAt.get {F : Nat → Oper → Prop} : ∀ {n : Nat} {l : List Oper}, AllAt F n l → ∀ i o, l[i]? = some o → F (n + i) o
  | _, [], _, i, o, h => by simp at h
  | n, u :: r, hA, i, o, h => by
    obtain ⟨h1, h2⟩ := hA
    cases i with
    | zero => simp at h; subst h; exact h1
    | succ i =>
      have := AllAt.get h2 i o (by simpa using h)
      rwa [show n + 1 + i = n + (i + 1) by omega] at this

def oldOk (ops : Array Oper) (i t : Nat) : Bool := ops.toList.all fun u => u.dst != some t || u.after.toList.any fun e => Region.binds .any e && e.on == i
theorem Leans.old_ {V : Nat → Value} {i : Nat} {o : Oper} {L : Nat → Prop} {b : Act} (h : Leans ops V a i o L b) (t : Nat) (hk : oldOk ops i t = true) : b.tmps[t]? = a.tmps[t]? := by
  refine h.old t (fun j u hj hd => ?_)
  simp only [oldOk, List.all_eq_true] at hk
  have := hk u (by
    obtain ⟨hl, he⟩ := Array.getElem?_eq_some_iff.1 hj
    rw [← he]
    simp)
  simp only [hd, bne_self_eq_false, Bool.false_or, List.any_eq_true, Bool.and_eq_true, beq_iff_eq] at this
  obtain ⟨e, he, hb, hi⟩ := this
  exact ⟨e, by simpa using he, hb, hi⟩
def depOk (ops : Array Oper) (o : Oper) (j t : Nat) : Bool := (o.after.toList.any fun e => Region.binds .any e && e.on == j) && ((ops[j]?).bind (·.dst) == some t)
theorem Leans.dep {V : Nat → Value} {i : Nat} {o : Oper} {L : Nat → Prop} {b : Act} (h : Leans ops V a i o L b) (j t : Nat) (hk : depOk ops o j t = true) : b.tmps[t]? = some (V j) := by
  simp only [depOk, Bool.and_eq_true, List.any_eq_true, beq_iff_eq] at hk
  obtain ⟨⟨e, he, hb, rfl⟩, hd⟩ := hk
  cases hu : ops[e.on]? with
  | none => rw [hu] at hd; cases hd
  | some u =>
    rw [hu] at hd
    exact h.before e (by simpa using he) hb u t hu hd

/-- What each operation owes. -/
def Owes (P : Program) (ops : Array Oper) (Q : Exit → Act → World → Prop) (a : Act) (V : Nat → Value) (S : World → Prop) (i : Nat) (o : Oper) : Prop :=
  ∀ (L : Nat → Prop) (b : Act) (W : World), Leans ops V a i o L b → S W → ∀ K : Act → World → Prop, (∀ W', S W' → K (b.put o.dst (V i)) W') →
    if Region.wanted o (yielded ops b.tmps) = true then o.wp P b W K Q else K (b.put o.dst undef) W
/-- .. where operation T alone turns the world, and every other comes ahead of it. -/
def OwesT (P : Program) (ops : Array Oper) (Q : Exit → Act → World → Prop) (a : Act) (V : Nat → Value) (S1 S2 : World → Prop) (T : Nat) (i : Nat) (o : Oper) : Prop :=
  ∀ (L : Nat → Prop) (b : Act) (W : World), Leans ops V a i o L b → S1 W → ∀ K : Act → World → Prop, (∀ W', (if i = T then S2 else S1) W' → K (b.put o.dst (V i)) W') →
    if Region.wanted o (yielded ops b.tmps) = true then o.wp P b W K Q else K (b.put o.dst undef) W
def behind (ops : Array Oper) : Nat → Nat → Nat → Bool
  | 0, _, _ => false
  | n + 1, t, i => match ops[t]? with
    | some o => o.after.toList.any fun e => Region.binds .any e && (e.on == i || behind ops n e.on i)
    | none => false
theorem behind_listed {L : Nat → Prop} (hd : ∀ (j : Nat) (o : Oper), ops[j]? = some o → L j → ∀ e ∈ o.after, Region.binds .any e = true → L e.on) : ∀ (n t i : Nat), behind ops n t i = true → L t → L i
  | 0, _, _, h, _ => by simp [behind] at h
  | n + 1, t, i, h, hL => by
    unfold behind at h
    cases ho : ops[t]? with
    | none => rw [ho] at h; simp at h
    | some o =>
      rw [ho] at h
      simp only [List.any_eq_true, Bool.and_eq_true, Bool.or_eq_true, beq_iff_eq] at h
      obtain ⟨e, he, hb, hi⟩ := h
      have hl := hd t o ho hL e (by simpa using he) hb
      rcases hi with rfl | hi
      · exact hl
      · exact behind_listed hd n e.on i hi hl
def lastly (ops : Array Oper) (T : Nat) : Bool := (List.range ops.size).all fun i => i == T || behind ops ops.size T i
def putList (V : Nat → Value) : Nat → Act → List Oper → Act
  | _, a, [] => a
  | n, a, o :: r => putList V (n + 1) (a.put o.dst (V n)) r
theorem putList_nil (V : Nat → Value) (n : Nat) (a : Act) : putList V n a [] = a := rfl
theorem putList_cons (V : Nat → Value) (n : Nat) (a : Act) (o : Oper) (r : List Oper) : putList V n a (o :: r) = putList V (n + 1) (a.put o.dst (V n)) r := rfl
theorem putAll_list (V : Nat → Value) : ∀ (l1 l2 : List Oper), ops.toList = l1 ++ l2 → putAll ops V a (l1.length + l2.length) = putList V l1.length (putAll ops V a l1.length) l2
  | l1, [], _ => rfl
  | l1, o :: r, h => by
    have := putAll_list V (l1 ++ [o]) r (by rw [h]; simp)
    have ho : ops[l1.length]? = some o := by
      rw [← Array.getElem?_toList, h]
      simp
    rw [List.length_append, List.length_singleton] at this
    rw [List.length_cons, show l1.length + (r.length + 1) = l1.length + 1 + r.length by omega, this, putList_cons]
    simp only [putAll, ho, Option.bind_some]
theorem putAll_end (V : Nat → Value) : putAll ops V a ops.size = putList V 0 a ops.toList := by
  have := putAll_list (ops := ops) (a := a) V [] ops.toList rfl
  simpa only [List.length_nil, Nat.zero_add, putAll, Array.length_toList] using this
theorem region_fixed_all {id : Nat} {w : World} (hm : P.follows .mixedOrders = true) (V : Nat → Value) (S : World → Prop) (ho : orderly ops a.tmps.size = true) (h0 : S w.drew)
    (hops : AllAt (Owes P ops Q a V S) 0 ops.toList) (hend : ∀ W, S W → Q .normal (putList V 0 a ops.toList) W) : (Code.region id ops true).wp P Q a w :=
  region_fixed hm V (fun _ => S) ho h0 (fun i o hi L b W hL hS K hK => by
    have := hops.get i o (by simpa using hi)
    rw [Nat.zero_add] at this
    exact this L b W hL hS K hK) (fun W hS => by rw [putAll_end]; exact hend W hS.choose_spec.2)
theorem region_turn_all {id : Nat} {w : World} (hm : P.follows .mixedOrders = true) (V : Nat → Value) (T : Nat) (S1 S2 : World → Prop) (ho : orderly ops a.tmps.size = true) (hT : decide (T < ops.size) = true) (hl : lastly ops T = true) (h0 : S1 w.drew)
    (hops : AllAt (OwesT P ops Q a V S1 S2 T) 0 ops.toList) (hend : ∀ W, S2 W → Q .normal (putList V 0 a ops.toList) W) : (Code.region id ops true).wp P Q a w := by
  refine region_fixed hm V (fun L W => (L T → S2 W) ∧ (¬ L T → S1 W)) ho ⟨fun h => h.elim, fun _ => h0⟩ (fun i o hi L b W hL hS K hK => ?_) (fun W hS => ?_)
  · have hnT : ¬ L T := by
      intro hLT
      by_cases e : i = T
      · subst e; exact hL.fresh hLT
      · simp only [lastly, List.all_eq_true, List.mem_range, Bool.or_eq_true, beq_iff_eq] at hl
        rcases hl i (Array.getElem?_eq_some_iff.1 hi).1 with h | h
        · exact e h
        · exact hL.fresh (behind_listed hL.down _ _ _ h hLT)
    have := hops.get i o (by simpa using hi)
    rw [Nat.zero_add] at this
    refine this L b W hL (hS.2 hnT) K (fun W' hW' => hK W' ?_)
    by_cases e : i = T
    · rw [if_pos e] at hW'
      exact ⟨fun _ => hW', fun h => absurd (Or.inr e.symm) h⟩
    · rw [if_neg e] at hW'
      exact ⟨fun h => by rcases h with h | h; exact absurd h hnT; exact absurd h.symm e, fun _ => hW'⟩
  · rw [putAll_end]
    obtain ⟨L, hall, hS⟩ := hS
    exact hend W (hS.1 (hall T (of_decide_eq_true hT)))
end
end Go.Proofs.YtnaphhfmccbamaaGreatDoor

namespace Go.Proofs.YtnaphhfmccbamaaGreatDoor
open Go.RowKit
section
variable {P : Program} {ops : Array Oper} {Q : Exit → Act → World → Prop} {a : Act}
def upd (V : Nat → Value) (i : Nat) (v : Value) : Nat → Value := fun j => if j = i then v else V j
theorem upd_same (V : Nat → Value) (i : Nat) (v : Value) : upd V i v i = v := if_pos rfl
theorem upd_ne (V : Nat → Value) {i j : Nat} (v : Value) (h : j ≠ i) : upd V i v j = V j := if_neg h
theorem Filled.congr {V V' : Nat → Value} {L : Nat → Prop} {b : Act} (h : Filled ops V a L b) (hv : ∀ j, L j → V' j = V j) : Filled ops V' a L b :=
  ⟨h.defers, h.size, fun j o t hj ht hL => by rw [hv j hL]; exact h.put_ j o t hj ht hL, h.old⟩
theorem region_free {id : Nat} {w : World} (hm : P.follows .mixedOrders = true) (S : (Nat → Prop) → (Nat → Value) → World → Prop) (ho : orderly ops a.tmps.size = true) (h0 : S (fun _ => False) (fun _ => undef) w.drew)
    (hops : ∀ i o, ops[i]? = some o → ∀ (L : Nat → Prop) (V : Nat → Value) (b : Act) (W : World), Leans ops V a i o L b → S L V W → ∀ K : Act → World → Prop, (∀ v W', S (fun j => L j ∨ j = i) (upd V i v) W' → K (b.put o.dst v) W') →
      if Region.wanted o (yielded ops b.tmps) = true then o.wp P b W K Q else K (b.put o.dst undef) W)
    (hend : ∀ V W, (∃ L : Nat → Prop, (∀ j, j < ops.size → L j) ∧ S L V W) → Q .normal (putAll ops V a ops.size) W) : (Code.region id ops true).wp P Q a w := by
  refine wp_region_any hm ?_
  have key : ∀ fuel (listed : Array Bool) (V : Nat → Value) (b : Act) (W : World), listed.size = ops.size → cntR (fun i => !listed.getD i true) ops.size ≤ fuel → Filled ops V a (fun j => listed[j]? = some true) b → S (fun j => listed[j]? = some true) V W →
      (∀ (j : Nat) (o : Oper), ops[j]? = some o → listed[j]? = some true → ∀ e ∈ o.after, Region.binds .any e = true → listed[e.on]? = some true) → wpAny P .any ops Q fuel listed b W := by
    intro fuel
    induction fuel with
    | zero =>
      intro listed V b W hs hc hF hS _
      have hall := cntR_zero (Nat.le_zero.1 hc)
      refine ⟨?_, ?_⟩
      · unfold Region.ready
        rw [List.filter_eq_nil_iff]
        intro i hi
        have := hall i (by simpa using hi)
        simp only [Bool.not_eq_false'] at this
        simp [this]
      · have hall' : ∀ j, j < ops.size → listed[j]? = some true := fun j hj => by
          have := hall j hj
          simp only [Bool.not_eq_false'] at this
          rw [Array.getElem?_eq_getElem (by omega)]
          simpa [Array.getD, hs, hj] using this
        rw [hF.eq (putAll_filled ho ops.size (Nat.le_refl _)) hall' (fun j hj => hj)]
        exact hend V W ⟨_, hall', hS⟩
    | succ fuel ih =>
      intro listed V b W hs hc hF hS hdown
      refine ⟨fun hr => ?_, fun i hi => ?_⟩
      · -- all are listed: else the first that is not would be ready
        have hall : ∀ n, n ≤ ops.size → ∀ j, j < n → listed[j]? = some true := by
          intro n
          induction n with
          | zero => intro _ j hj; omega
          | succ n ihn =>
            intro hn j hj
            by_cases e : j = n
            · subst e
              have hjs : j < listed.size := by omega
              cases hl : listed[j] with
              | true => rw [Array.getElem?_eq_getElem hjs, hl]
              | false =>
                exfalso
                unfold Region.ready at hr
                rw [List.filter_eq_nil_iff] at hr
                have hoj : ops[j]? = some ops[j] := Array.getElem?_eq_getElem (by omega)
                refine hr j (by simp; omega) ?_
                rw [hoj]
                have hjl : listed.getD j true = false := by rw [Array.getD_eq_getD_getElem?, Array.getElem?_eq_getElem hjs, hl]; rfl
                simp only [hjl, Bool.not_false, Bool.true_and, Option.map_some, Option.getD_some]
                rw [Array.all_eq_true_iff_forall_mem]
                intro e he
                cases hb : Region.binds .any e with
                | false => rfl
                | true =>
                  have hlt := orderly_edge ho hoj he hb
                  have := ihn (by omega) e.on hlt
                  rw [Array.getD_eq_getD_getElem?, this]
                  rfl
            · exact ihn (by omega) j (by omega)
        rw [hF.eq (putAll_filled ho ops.size (Nat.le_refl _)) (fun j hj => hall ops.size (Nat.le_refl _) j hj) (fun j hj => hj)]
        exact hend V W ⟨_, fun j hj => hall ops.size (Nat.le_refl _) j hj, hS⟩
      · unfold Region.ready at hi
        rw [List.mem_filter] at hi
        obtain ⟨hir, hi⟩ := hi
        have his : i < ops.size := by simpa using hir
        have hoi : ops[i]? = some ops[i] := Array.getElem?_eq_getElem his
        rw [hoi] at hi
        simp only [Bool.and_eq_true, Option.map_some, Option.getD_some] at hi
        obtain ⟨hnl, haf⟩ := hi
        have hils : i < listed.size := by omega
        have hnl' : listed[i] = false := by simpa [Array.getD, hils] using hnl
        rw [Array.all_eq_true_iff_forall_mem] at haf
        have hbef : ∀ e ∈ ops[i].after, Region.binds .any e = true → listed[e.on]? = some true := fun e he hb => by
          have := haf e he
          rw [hb] at this
          have hlt := orderly_edge ho hoi he hb
          rw [Array.getElem?_eq_getElem (by omega)]
          simpa [Array.getD, show e.on < listed.size by omega] using this
        have hlean : Leans ops V a i ops[i] (fun j => listed[j]? = some true) b := by
          refine ⟨(by rw [Array.getElem?_eq_getElem hils, hnl']; simp), hbef, hdown, hF.defers, hF.size, fun e he hb u t hu ht => hF.put_ e.on u t hu ht (hbef e he hb), fun t ht => hF.old t (fun j u hj hu hL => ?_)⟩
          obtain ⟨e, he, hb, hei⟩ := ht j u hj hu
          have := hdown j u hj hL e he hb
          rw [hei, Array.getElem?_eq_getElem hils, hnl'] at this
          cases this
        refine wpOp_step hoi (fun K' hK' => hops i ops[i] hoi _ V b W hlean hS K' (fun v W' hS' => hK' _ _ ?_))
        have hset : ∀ j, (listed.setIfInBounds i true)[j]? = some true ↔ (listed[j]? = some true ∨ j = i) := by
          intro j
          rw [Array.getElem?_setIfInBounds]
          by_cases e : i = j
          · subst e; simp [hils]
          · rw [if_neg e]
            constructor
            · exact .inl
            · rintro (h | h)
              · exact h
              · exact absurd h.symm e
        refine ih _ (upd V i v) _ W' (by simpa using hs) ?_ ?_ (by rw [show (fun j => (listed.setIfInBounds i true)[j]? = some true) = (fun j => listed[j]? = some true ∨ j = i) from funext fun j => propext (hset j)]; exact hS') ?_
        · have hq := cntR_set (p := fun i => !listed.getD i true) (q := fun j => !(listed.setIfInBounds i true).getD j true) his hnl (by simp [Array.getD, hils]) (fun j hj => by
            simp only [Array.getD_eq_getD_getElem?, Array.getElem?_setIfInBounds, if_neg (Ne.symm hj)])
          omega
        · have := (hF.congr (V' := upd V i v) (fun j hj => by
            unfold upd
            rw [if_neg]
            intro e
            subst e
            rw [Array.getElem?_eq_getElem hils, hnl'] at hj
            simp at hj)).step ho hoi
          rw [show upd V i v i = v from if_pos rfl] at this
          refine ⟨this.defers, this.size, fun j u t hj ht hL => this.put_ j u t hj ht ((hset j).1 hL), fun t ht => this.old t (fun j u hj hu hL => ht j u hj hu ((hset j).2 hL))⟩
        · intro j u hj hL e he hb
          rw [hset] at hL ⊢
          rcases hL with hL | rfl
          · exact .inl (hdown j u hj hL e he hb)
          · rw [hoi] at hj; injection hj with hj; subst hj
            exact .inl (hbef e he hb)
  refine key ops.size _ (fun _ => undef) a _ (by simp) ?_ ?_ (by rw [show (fun j => (Array.replicate ops.size false)[j]? = some true) = (fun _ => False) from funext fun j => propext ⟨fun h => by simp [Array.getElem?_replicate] at h, fun h => h.elim⟩]; exact h0) ?_
  · have : ∀ n, cntR (fun i => !(Array.replicate ops.size false).getD i true) n ≤ n := by
      intro n
      induction n with
      | zero => exact Nat.le_refl _
      | succ n ih => simp only [cntR]; split <;> omega
    exact this _
  · refine ⟨rfl, rfl, fun j o t _ _ h => ?_, fun t _ => rfl⟩
    simp [Array.getElem?_replicate] at h
  · intro j o _ h
    simp [Array.getElem?_replicate] at h


def isOk (ops : Array Oper) (o : Oper) (j : Nat) : Bool := o.after.toList.any fun e => Region.binds .any e && (e.on == j || behind ops ops.size e.on j)
theorem Leans.is_ {V : Nat → Value} {i : Nat} {o : Oper} {L : Nat → Prop} {b : Act} (h : Leans ops V a i o L b) (j : Nat) (hk : isOk ops o j = true) : L j := by
  simp only [isOk, List.any_eq_true, Bool.and_eq_true, Bool.or_eq_true, beq_iff_eq] at hk
  obtain ⟨e, he, hb, hh⟩ := hk
  have hl := h.ready e (by simpa using he) hb
  rcases hh with rfl | hh
  · exact hl
  · exact behind_listed h.down _ _ _ hh hl
def notOk (ops : Array Oper) (i j : Nat) : Bool := behind ops ops.size j i
theorem Leans.not_ {V : Nat → Value} {i : Nat} {o : Oper} {L : Nat → Prop} {b : Act} (h : Leans ops V a i o L b) (j : Nat) (hk : notOk ops i j = true) : ¬ L j := fun hj => h.fresh (behind_listed h.down _ _ _ hk hj)
def OwesF (P : Program) (ops : Array Oper) (Q : Exit → Act → World → Prop) (a : Act) (S : (Nat → Prop) → (Nat → Value) → World → Prop) (i : Nat) (o : Oper) : Prop :=
  ∀ (L : Nat → Prop) (V : Nat → Value) (b : Act) (W : World), Leans ops V a i o L b → S L V W → ∀ K : Act → World → Prop, (∀ v W', S (fun j => L j ∨ j = i) (upd V i v) W' → K (b.put o.dst v) W') →
    if Region.wanted o (yielded ops b.tmps) = true then o.wp P b W K Q else K (b.put o.dst undef) W
theorem region_free_all {id : Nat} {w : World} (hm : P.follows .mixedOrders = true) (S : (Nat → Prop) → (Nat → Value) → World → Prop) (ho : orderly ops a.tmps.size = true) (h0 : S (fun _ => False) (fun _ => undef) w.drew)
    (hops : AllAt (OwesF P ops Q a S) 0 ops.toList) (hend : ∀ (L : Nat → Prop) V W, (∀ j, j < ops.size → L j) → S L V W → Q .normal (putList V 0 a ops.toList) W) : (Code.region id ops true).wp P Q a w :=
  region_free hm S ho h0 (fun i o hi L V b W hL hS K hK => by
    have := hops.get i o (by simpa using hi)
    rw [Nat.zero_add] at this
    exact this L V b W hL hS K hK) (fun V W hS => by rw [putAll_end]; obtain ⟨L, h1, h2⟩ := hS; exact hend L V W h1 h2)
end
end Go.Proofs.YtnaphhfmccbamaaGreatDoor

namespace Go.Proofs.YtnaphhfmccbamaaGreatDoor
open Go.RowKit
section
variable {P : Program} {ops : Array Oper} {Q : Exit → Act → World → Prop} {a : Act}
def mkL (vals : Nat → Option Value) (L : Nat → Prop) : Nat → Prop := fun j => vals j = none ∧ L j
def mkV (vals : Nat → Option Value) (V : Nat → Value) : Nat → Value := fun j => match vals j with | none => V j | some _ => undef
theorem mkL_iff {vals : Nat → Option Value} {L : Nat → Prop} {j : Nat} (h : vals j = none) : mkL vals L j ↔ L j := ⟨fun h => h.2, fun h' => ⟨h, h'⟩⟩
theorem mkV_eq {vals : Nat → Option Value} {V : Nat → Value} {j : Nat} (h : vals j = none) : mkV vals V j = V j := by unfold mkV; rw [h]
def Fixd (vals : Nat → Option Value) (L : Nat → Prop) (V : Nat → Value) : Prop := ∀ j u, vals j = some u → L j → V j = u
theorem Leans.depv {V : Nat → Value} {i : Nat} {o : Oper} {L : Nat → Prop} {b : Act} (h : Leans ops V a i o L b) {vals : Nat → Option Value} (hF : Fixd vals L V) (j t : Nat) (u : Value) (hv : vals j = some u) (hk : depOk ops o j t = true) : b.tmps[t]? = some u := by
  rw [h.dep j t hk]
  simp only [depOk, Bool.and_eq_true, List.any_eq_true, beq_iff_eq] at hk
  obtain ⟨⟨e, he, hb, rfl⟩, _⟩ := hk
  rw [hF e.on u hv (h.ready e (by simpa using he) hb)]
theorem Leans.depn {V : Nat → Value} {i : Nat} {o : Oper} {L : Nat → Prop} {b : Act} (h : Leans ops V a i o L b) {vals : Nat → Option Value} (j t : Nat) (hv : vals j = none) (hk : depOk ops o j t = true) : b.tmps[t]? = some (mkV vals V j) := by
  rw [h.dep j t hk, mkV_eq hv]
theorem Leans.isn {V : Nat → Value} {i : Nat} {o : Oper} {L : Nat → Prop} {b : Act} (h : Leans ops V a i o L b) {vals : Nat → Option Value} (j : Nat) (hv : vals j = none) (hk : isOk ops o j = true) : mkL vals L j := ⟨hv, h.is_ j hk⟩
theorem Leans.notn {V : Nat → Value} {i : Nat} {o : Oper} {L : Nat → Prop} {b : Act} (h : Leans ops V a i o L b) {vals : Nat → Option Value} (j : Nat) (hk : notOk ops i j = true) : ¬ mkL vals L j := fun hh => h.not_ j hk hh.2
theorem Leans.freshn {V : Nat → Value} {i : Nat} {o : Oper} {L : Nat → Prop} {b : Act} (h : Leans ops V a i o L b) {vals : Nat → Option Value} : ¬ mkL vals L i := fun hh => h.fresh hh.2

/-- What an operation of a known value owes. -/
def OweK (P : Program) (Q : Exit → Act → World → Prop) (ops : Array Oper) (b : Act) (o : Oper) (W : World) (K : Act → World → Prop) : Prop :=
  if Region.wanted o (yielded ops b.tmps) = true then o.wp P b W K Q else K (b.put o.dst undef) W
def OwesP (P : Program) (ops : Array Oper) (Q : Exit → Act → World → Prop) (a : Act) (vals : Nat → Option Value) (R : (Nat → Prop) → (Nat → Value) → World → Prop) (i : Nat) (o : Oper) : Prop :=
  ∀ (L : Nat → Prop) (V : Nat → Value) (b : Act) (W : World), Leans ops V a i o L b → Fixd vals L V → R (mkL vals L) (mkV vals V) W → ∀ K : Act → World → Prop,
    (match vals i with
      | some u => ∀ W', R (mkL vals L) (mkV vals V) W' → K (b.put o.dst u) W'
      | none => ∀ v W', R (fun j => mkL vals L j ∨ j = i) (upd (mkV vals V) i v) W' → K (b.put o.dst v) W') →
    if Region.wanted o (yielded ops b.tmps) = true then o.wp P b W K Q else K (b.put o.dst undef) W
theorem region_parts_all {id : Nat} {w : World} (hm : P.follows .mixedOrders = true) (vals : Nat → Option Value) (R : (Nat → Prop) → (Nat → Value) → World → Prop) (ho : orderly ops a.tmps.size = true)
    (h0 : ∀ V, R (fun _ => False) V w.drew) (hops : AllAt (OwesP P ops Q a vals R) 0 ops.toList)
    (hend : ∀ (L : Nat → Prop) V W, (∀ j, vals j = none → j < ops.size → L j) → (∀ j u, j < ops.size → vals j = some u → V j = u) → R L (mkV vals V) W → Q .normal (putList V 0 a ops.toList) W) : (Code.region id ops true).wp P Q a w := by
  refine region_free hm (fun L V W => Fixd vals L V ∧ R (mkL vals L) (mkV vals V) W) ho ⟨fun _ _ _ h => h.elim, ?_⟩ (fun i o hi L V b W hL hS K hK => ?_) (fun V W hS => ?_)
  · rw [show mkL vals (fun _ => False) = fun _ => False from funext fun j => propext ⟨fun h => h.2, fun h => h.elim⟩]
    exact h0 _
  · have := hops.get i o (by simpa using hi)
    rw [Nat.zero_add] at this
    refine this L V b W hL hS.1 hS.2 K ?_
    cases hv : vals i with
    | some u =>
      intro W' hR
      refine hK u W' ⟨fun j v hj hLj => ?_, ?_⟩
      · by_cases e : j = i
        · subst e; rw [hv] at hj; injection hj with hj; rw [upd_same, hj]
        · rw [upd_ne _ _ e]
          exact hS.1 j v hj (hLj.resolve_right e)
      · rw [show mkL vals (fun j => L j ∨ j = i) = mkL vals L from funext fun j => propext ⟨fun h => ⟨h.1, h.2.resolve_right (fun e => by have := h.1; rw [e, hv] at this; cases this)⟩, fun h => ⟨h.1, .inl h.2⟩⟩,
          show mkV vals (upd V i u) = mkV vals V from funext fun j => by
            unfold mkV
            cases hj : vals j with
            | some _ => rfl
            | none => exact upd_ne _ _ (fun e => by rw [e, hv] at hj; cases hj)]
        exact hR
    | none =>
      intro v W' hR
      refine hK v W' ⟨fun j u hj hLj => ?_, ?_⟩
      · have e : j ≠ i := fun e => by rw [e, hv] at hj; cases hj
        rw [upd_ne _ _ e]
        exact hS.1 j u hj (hLj.resolve_right e)
      · rw [show mkL vals (fun j => L j ∨ j = i) = (fun j => mkL vals L j ∨ j = i) from funext fun j => propext ⟨fun h => h.2.elim (fun h2 => .inl ⟨h.1, h2⟩) .inr, fun h => h.elim (fun h2 => ⟨h2.1, .inl h2.2⟩) (fun e => ⟨by rw [e, hv], .inr e⟩)⟩,
          show mkV vals (upd V i v) = upd (mkV vals V) i v from funext fun j => by
            by_cases e : j = i
            · rw [e, upd_same, mkV_eq hv, upd_same]
            · rw [upd_ne _ _ e]
              unfold mkV
              cases hj : vals j with
              | some _ => rfl
              | none => exact upd_ne _ _ e]
        exact hR
  · obtain ⟨L, hall, hF, hR⟩ := hS
    rw [putAll_end]
    exact hend _ V W (fun j hj hlt => ⟨hj, hall j hlt⟩) (fun j u hlt hv => hF j u hv (hall j hlt)) hR
end
end Go.Proofs.YtnaphhfmccbamaaGreatDoor

namespace Go.Proofs.YtnaphhfmccbamaaGreatDoor
open Go.RowKit

/-- At ia the element is laid in a block of its own, at ip it is appended, at is the field is stored; iv is where a value of the element is found on the way. -/
structure AppR (X : World) (base sb : Nat) (T e : TypeId) (sz : Nat) (st : Value → Array Value) (lv : Value) (k : Nat) (xs : List Value) (nw : Value → List Value) (iv ia ip is_ : Nat) (L : Nat → Prop) (V : Nat → Value) (W : World) : Prop where
  kp : Kp (fun b => b = sb ∨ lv.ownBlock = some b) X W
  al : L ia → ∃ n, V ia = .slice (some ⟨n, 0, none⟩) 1 1 ∧ X.heap.size ≤ n ∧ (¬ L ip → Blk W n e (nw (V iv)).toArray)
  own : ¬ L ip → W.ownsRow base e sz lv k xs
  own2 : L ip → W.ownsRow base e sz (V ip) (k + 1) (xs ++ nw (V iv))
  st1 : ¬ L is_ → Blk W sb T (st lv)
  st2 : L is_ → Blk W sb T (st (V ip))

section
variable {X W W' : World} {base sb : Nat} {T e : TypeId} {sz : Nat} {st : Value → Array Value} {lv : Value} {k : Nat} {xs : List Value} {nw : Value → List Value} {iv ia ip is_ : Nat} {L : Nat → Prop} {V : Nat → Value}
theorem ownsRow_kp {S : Nat → Prop} {n : Nat} {v : Value} {ys : List Value} (h : W.ownsRow base e sz v n ys) (kk : Kp S W W') (hs : ∀ b, v.ownBlock = some b → ¬ S b) : W'.ownsRow base e sz v n ys := by
  refine ⟨h.1, ?_⟩
  rcases h.2 with h2 | ⟨g, cap, cur, rfl, a2, a3, a4⟩
  · exact .inl h2
  · exact .inr ⟨g, cap, cur, rfl, a2, (kk.block g (Blk.lt (t := e) a3) (hs g rfl)).trans a3, a4⟩
theorem AppR.start (h1 : X.ownsRow base e sz lv k xs) (h2 : Blk X sb T (st lv)) (V : Nat → Value) : AppR X base sb T e sz st lv k xs nw iv ia ip is_ (fun _ => False) V X.drew := by
  refine ⟨(Kp.refl _ X).drew, fun h => h.elim, fun _ => ownsRow_kp (S := fun _ => False) h1 ((Kp.refl _ X).drew) (fun _ _ x => x), fun h => h.elim, fun _ => h2.drew, fun h => h.elim⟩
theorem AppR.below (h : AppR X base sb T e sz st lv k xs nw iv ia ip is_ L V W) (hb : Below W.heap.size W W') : AppR X base sb T e sz st lv k xs nw iv ia ip is_ L V W' := by
  have kk := Kp.of_below hb (fun _ => False)
  refine ⟨h.kp.trans kk (fun _ x _ => x.elim), fun hl => ?_, fun hl => ownsRow_kp (h.own hl) kk (fun _ _ x => x), fun hl => ownsRow_kp (h.own2 hl) kk (fun _ _ x => x), fun hl => (h.st1 hl).kp kk (fun x => x), fun hl => (h.st2 hl).kp kk (fun x => x)⟩
  obtain ⟨n, e1, h1, h2⟩ := h.al hl
  exact ⟨n, e1, h1, fun hp => (h2 hp).kp kk (fun x => x)⟩
theorem AppR.call (h : AppR X base sb T e sz st lv k xs nw iv ia ip is_ L V W) (n1 : iv ≠ ia) (n2 : iv ≠ ip) (n3 : iv ≠ is_) (hia : ¬ L ia) (hip : ¬ L ip) (v : Value) (hb : Below W.heap.size W W') : AppR X base sb T e sz st lv k xs nw iv ia ip is_ (fun j => L j ∨ j = iv) (upd V iv v) W' := by
  have h' := h.below hb
  refine ⟨h'.kp, fun hl => absurd (hl.resolve_right (fun e => n1 e.symm)) hia, fun _ => h'.own hip, fun hl => absurd (hl.resolve_right (fun e => n2 e.symm)) hip, fun hl => h'.st1 (fun x => hl (.inl x)), fun hl => ?_⟩
  rw [upd_ne _ _ (Ne.symm n2)]
  exact h'.st2 (hl.resolve_right (fun e => n3 e.symm))
theorem AppR.alloc (h : AppR X base sb T e sz st lv k xs nw iv ia ip is_ L V W) (n1 : iv ≠ ia) (n2 : ip ≠ ia) (n3 : is_ ≠ ia) (hip : ¬ L ip) (his : ¬ L is_) :
    AppR X base sb T e sz st lv k xs nw iv ia ip is_ (fun j => L j ∨ j = ia) (upd V ia (.slice (some ⟨W.heap.size, 0, none⟩) 1 1)) (W.alloc (.cells (nw (V iv)).toArray e)) := by
  have hX := h.kp.size
  have kk : Kp (fun _ => False) W (W.alloc (.cells (nw (V iv)).toArray e)) := (Kp.refl _ W).alloc _
  refine ⟨h.kp.alloc _, fun _ => ⟨W.heap.size, upd_same _ _ _, hX, fun _ => ?_⟩, fun _ => ownsRow_kp (h.own hip) kk (fun _ _ x => x), fun hl => absurd (hl.resolve_right n2) hip, fun _ => (h.st1 his).kp kk (fun x => x), fun hl => absurd (hl.resolve_right n3) his⟩
  rw [upd_ne _ _ n1]
  exact Blk.at_top rfl
theorem AppR.app (h : AppR X base sb T e sz st lv k xs nw iv ia ip is_ L V W) (n1 : iv ≠ ip) (n2 : ia ≠ ip) (n3 : is_ ≠ ip) (_hip : ¬ L ip) (his : ¬ L is_) (hne : ∀ b, lv.ownBlock = some b → b ≠ sb) (u : Value) (hg : W.grownBy W' lv.ownBlock) (hown : W'.ownsRow base e sz u (k + 1) (xs ++ nw (V iv))) :
    AppR X base sb T e sz st lv k xs nw iv ia ip is_ (fun j => L j ∨ j = ip) (upd V ip u) W' := by
  have kk := kp_of_grown hg
  refine ⟨h.kp.trans kk (fun b hb _ => .inr hb.symm), fun hl => ?_, fun hl => absurd (Or.inr rfl) hl, fun _ => ?_, fun _ => (h.st1 his).kp kk (fun e => (hne _ e.symm) rfl), fun hl => absurd (hl.resolve_right n3) his⟩
  · obtain ⟨n, e1, h1, _⟩ := h.al (hl.resolve_right n2)
    exact ⟨n, by rw [upd_ne _ _ n2]; exact e1, h1, fun x => absurd (Or.inr rfl) x⟩
  · rw [upd_same, upd_ne _ _ n1]
    exact hown
theorem AppR.store (h : AppR X base sb T e sz st lv k xs nw iv ia ip is_ L V W) (n1 : iv ≠ is_) (n2 : ia ≠ is_) (n3 : ip ≠ is_) (hip : L ip) (his : ¬ L is_) (hb : sb < base) (fi : Nat) (hst : ∀ u, (st lv).setIfInBounds fi u = st u) (q : Value) :
    AppR X base sb T e sz st lv k xs nw iv ia ip is_ (fun j => L j ∨ j = is_) (upd V is_ q) (W.setCell ⟨sb, fi, none⟩ (V ip)) := by
  have kk : Kp (fun b => b = sb) W (W.setCell ⟨sb, fi, none⟩ (V ip)) := Kp.set_ (S := fun b => b = sb) (Kp.refl _ W) (.inl rfl) _
  refine ⟨h.kp.trans kk (fun b hb _ => .inl hb), fun hl => ?_, fun hl => absurd (Or.inl hip) hl, fun _ => ?_, fun hl => absurd (Or.inr rfl) hl, fun _ => ?_⟩
  · obtain ⟨n, e1, h1, _⟩ := h.al (hl.resolve_right n2)
    exact ⟨n, by rw [upd_ne _ _ n2]; exact e1, h1, fun x => absurd (Or.inl hip) x⟩
  · rw [upd_ne _ _ n3, upd_ne _ _ n1]
    have ho := h.own2 hip
    refine ownsRow_kp ho kk (fun b hbo e => ?_)
    obtain ⟨g, cap, hv, hg, _⟩ := ho.form (by omega)
    rw [hv] at hbo
    have hbo' : some g = some b := hbo
    injection hbo' with hbo'
    omega
  · rw [upd_ne _ _ n3]
    have := (h.st1 his).set_ fi (V ip)
    rw [hst] at this
    exact this
end
end Go.Proofs.YtnaphhfmccbamaaGreatDoor
