/- What the table makes of a text. No condition. -/
import Derived.Test.YtbpbghmhenilcaaDoorEscP
import Derived.Test.YtbpbghmhenilcaaDoorShelf
import Derived.Test.YtbpbghmhenilcaaDoorRight
import Derived.Laws.CopyOwn
import Derived.Deep.RegionLaw
namespace Go.Proofs.YtbpbghmhenilcaaDoor
open Go.RowKit

theorem neq_nil (n c : Nat) (a : Option Addr) (w : World) : (binOp .neq 37 (.slice a n c) (.slice none 0 0)).run Tryd.prog w = .ok (.bool a.isSome) w := by
  cases a <;> kernel_rfl
def bc (l : List UInt8) : List Value := l.map fun u => Value.int .u8 (u.toNat : Int)
theorem bc_len (l : List UInt8) : (bc l).length = l.length := by simp [bc]
theorem bc_txt (s : ByteArray) : byteCells (strB s) = bc s.data.toList := by simp [byteCells, strB, bc]
theorem bc_one (l : List UInt8) : ∀ v ∈ bc l, v.oneCell' = true := fun v hv => by
  obtain ⟨u, _, rfl⟩ := List.mem_map.1 hv; rfl
/-- A buffer of E bytes, of which the first are written. -/
def bufRow (E : Nat) (k : List UInt8) : List Value := bc k ++ List.replicate (E - k.length) (.int .u8 0)
theorem bufRow_len {E : Nat} {k : List UInt8} (h : k.length ≤ E) : (bufRow E k).length = E := by
  unfold bufRow; rw [List.length_append, bc_len, List.length_replicate]; omega
theorem bufRow_nil (E : Nat) : bufRow E [] = List.replicate E (.int .u8 0) := by simp [bufRow, bc]
theorem bufRow_at {E : Nat} {k : List UInt8} (h : k.length < E) : (bufRow E k)[k.length]? = some (.int .u8 0) := by
  unfold bufRow
  rw [List.getElem?_append_right (by rw [bc_len]; exact Nat.le_refl _), bc_len, Nat.sub_self, List.getElem?_replicate, if_pos (by omega)]
theorem bufRow_set {E : Nat} {k : List UInt8} (h : k.length < E) (u : UInt8) : (bufRow E k).set k.length (.int .u8 (u.toNat : Int)) = bufRow E (k ++ [u]) := by
  unfold bufRow
  obtain ⟨m, hm⟩ : ∃ m, E - k.length = m + 1 := ⟨E - k.length - 1, by omega⟩
  rw [List.set_append_right _ _ (by rw [bc_len]; exact Nat.le_refl _), bc_len, Nat.sub_self, hm, List.replicate_succ, List.set_cons_zero]
  rw [List.length_append, List.length_singleton, show E - (k.length + 1) = m by omega]
  simp [bc]
theorem bufRow_put {E : Nat} {k c : List UInt8} (h : k.length + c.length ≤ E) : splice (bufRow E k) k.length (bc c) = bufRow E (k ++ c) := by
  unfold bufRow splice
  have e1 : (bc k ++ List.replicate (E - k.length) (Value.int .u8 0)).take k.length = bc k := by
    rw [List.take_append_of_le_length (by rw [bc_len]; exact Nat.le_refl _), List.take_of_length_le (by rw [bc_len]; exact Nat.le_refl _)]
  have e2 : (bc k ++ List.replicate (E - k.length) (Value.int .u8 0)).drop (k.length + (bc c).length) = List.replicate (E - (k ++ c).length) (Value.int .u8 0) := by
    rw [List.drop_append, List.drop_of_length_le (by rw [bc_len]; omega), bc_len, bc_len, List.nil_append, List.drop_replicate, List.length_append]
    congr 1; omega
  rw [e1, e2]
  simp [bc]
theorem bufRow_all (k : List UInt8) : bufRow k.length k = bc k := by simp [bufRow]
theorem keys_at {r : Nat} (h : r < 5) : ((keysR 5).map Value.string)[r]? = some (.string ⟨#[keyB (4 - r)]⟩) := by
  rw [List.getElem?_map]; unfold keysR; rw [List.getElem?_map, List.getElem?_range h]; rfl
set_option maxHeartbeats 8000000 in
set_option maxRecDepth 100000 in
theorem byteRep_f (b t : Nat) (s : ByteArray) (w : World) (hs : s.size ≤ 1000000) (h : TabOk b t w) :
    Calls Tryd.prog 111 #[.pointer (some ⟨t, 0, none⟩), .string s] w fun e w' => e = .returned (.string (escS s)) ∧ Fr Nothing w w' := by
  obtain ⟨R, hR⟩ : ∃ R, R = escS s := ⟨_, rfl⟩
  obtain ⟨l, hl⟩ : ∃ l, l = s.data.toList := ⟨_, rfl⟩
  obtain ⟨N, hN⟩ : ∃ N, N = l.length := ⟨_, rfl⟩
  have hNs : s.size = N := by rw [hN, hl]; simp
  rw [← hR]
  obtain ⟨v, tv, hrow, hnil, hset, hown, -⟩ := h.row
  have c256 := Row.cell hrow 256 (tab_last v tv)
  obtain ⟨ta, tc, rfl, _, _⟩ := hown.shape
  have HK := Lib.hid hown.sl.2
  have HR := Lib.hid hR
  have HL := Lib.hid hl
  have HN := Lib.hid hN
  have HROW := Lib.hid hrow
  have HNIL := Lib.hid hnil
  have HSET := Lib.hid hset
  have HCO := Lib.hid (Tryd.strings_Count_one s)
  have hnn := neq_nil
  clear hR hl hN hrow hnil hset hown h
  obtain ⟨B, hB⟩ : ∃ B, decide ((40 : Int) ≤ (N : Int)) = B := ⟨_, rfl⟩
  go_enter Tryd.func111, Tryd.ntmps111
  go_upto_if 26 with (fail)
  go_cut [5, 6] (fun sz an wx => sz = .int .i64 ((escL l).length : Int) ∧ an = .bool (anyS l) ∧ Hid (Fr Nothing w wx))
  case first =>
    cases B with
    | true =>
      clear hB
      go_wp2_with (fail)
      go_loopg [5, 6, 32] 5 (fun gg vs va vi wr => ∃ r : Nat, r ≤ 5 ∧ gg = 5 - r ∧ vs = .int .i64 (csz l r) ∧ va = .bool (cany l r) ∧ vi = .int .i64 (r : Int) ∧ Hid (Fr Nothing w wr))
      case atStart => exact ⟨0, by omega, rfl, by simp [csz, HN.out], rfl, rfl, Lib.hid (Fr.refl _ _)⟩
      case round =>
        obtain ⟨r, hr, rfl, rfl, rfl, rfl, HF⟩ := hrel
        by_cases hlt : r < 5
        · obtain ⟨j, hj⟩ : ∃ j, j = 4 - r := ⟨_, rfl⟩
          have hj5 : j < 5 := by omega
          obtain ⟨u, hu⟩ : ∃ u, u = keyB j := ⟨_, rfl⟩
          obtain ⟨C, hC⟩ : ∃ C, C = Lib.countByte l u := ⟨_, rfl⟩
          obtain ⟨S, hS⟩ : ∃ S, S = csz l r := ⟨_, rfl⟩
          obtain ⟨A, hA⟩ : ∃ A, A = cany l r := ⟨_, rfl⟩
          obtain ⟨S2, hS2⟩ : ∃ S2, S2 = csz l (r + 1) := ⟨_, rfl⟩
          have hNN := HN.out
          have bS := csz_bd l r
          have bS2 := csz_bd l (r + 1)
          rw [← hS, ← hNN] at bS
          rw [← hS2, ← hNN] at bS2
          have bS5 : S ≤ 40000000 := by
            have : 5 * (r : Int) * (N : Int) ≤ 25 * 1000000 := Int.mul_le_mul (by omega) (by omega) (by omega) (by omega)
            omega
          have bS25 : S2 ≤ 40000000 := by
            have : 5 * ((r + 1 : Nat) : Int) * (N : Int) ≤ 25 * 1000000 := Int.mul_le_mul (by omega) (by omega) (by omega) (by omega)
            omega
          have bS0 : 0 ≤ S := by omega
          have bS20 : 0 ≤ S2 := by omega
          have hcn : C ≤ 1000000 := by rw [hC]; have : Lib.countByte l u ≤ l.length := List.count_le_length; omega
          obtain ⟨b1, p1, rfl, e1⟩ := Sl.oneCell (Sl.fr HK.out HF.out (fun _ _ h => h)) (j := r) (keys_at hlt)
          rw [← hj, ← hu] at e1
          have hstep : S2 = S + (C : Int) * ((txtB j).size - 1) := by rw [hS2, hS, hC, hu, hj]; rfl
          obtain ⟨s1, s2⟩ := txt_size hj5
          obtain ⟨g, cap, hv, _, _⟩ := HSET.out j hj5
          obtain ⟨Z, hZ⟩ : ∃ Z, Z = (txtB j).size := ⟨_, rfl⟩
          rw [← hZ] at hstep s1 s2 hv
          have hu256 : u.toNat < 256 := u.toNat_lt
          have hub : (u.toNat : Int) < 256 := by omega
          have ct := Row.cell (HROW.out.fr HF.out (fun h => h)) u.toNat (tab_get v _ hu256)
          rw [← hu] at hv
          rw [hv] at ct
          obtain ⟨M, hM⟩ : ∃ M : Int, M = (C : Int) * ((Z : Int) - 1) := ⟨_, rfl⟩
          have bM : 0 ≤ M ∧ M ≤ 6000000 := by
            rw [hM]
            exact ⟨Int.mul_nonneg (by omega) (by omega), by
              have : (C : Int) * ((Z : Int) - 1) ≤ 1000000 * 6 := Int.mul_le_mul (by omega) (by omega) (by omega) (by omega)
              omega⟩
          have bM0 := bM.1
          have bM1 := bM.2
          rw [← hM] at hstep
          have hsum : S + M = S2 := hstep.symm
          have hmul : (C : Int) * ((Z : Int) - 1) = M := hM.symm
          have hr5 : (r : Int) < 5 := by omega
          have hix : (({ data := #[u] } : ByteArray)[0]'(Nat.zero_lt_one)) = u := rfl
          have HCC : Hid (Calls Tryd.prog 113 #[.string s, .string ⟨#[u]⟩] wr fun e w' => e = .returned (.int .i64 (C : Int)) ∧ w' = wr) := Lib.hid (by
            have := HCO.out u wr
            rw [← HL.out, ← hC] at this; exact this)
          have hA2 : cany l (r + 1) = (A || decide (C ≠ 0)) := by rw [hA, hC, hu, hj]; rfl
          have HA2 := Lib.hid hA2
          have HS2 := Lib.hid hS2
          have HS := Lib.hid hS
          rw [← hS, ← hA]
          clear hj hu hC hS hA hS2 hNN bS bS2 hstep hv hZ hM bM hA2
          by_cases h0 : C = 0
          · subst h0
            have hSS : S = S2 := by
              have : M = 0 := by rw [← hmul]; exact Int.zero_mul _
              omega
            have HSS := Lib.hid hSS
            clear hSS hmul hsum
            go_wp2_with (go_at_call 113; refine HCC.out.mono ?_; rintro e w2 ⟨rfl, rfl⟩)
            go_roundg (5 - (r + 1))
            case measure => omega
            case rel => exact ⟨r + 1, by omega, rfl, by rw [HSS.out, HS2.out], by rw [HA2.out]; simp, by go_num, HF⟩
          · have hcb : ((C : Int) != 0) = true := by rw [bne_iff_ne]; omega
            go_wp2_with (go_at_call 113; refine HCC.out.mono ?_; rintro e w2 ⟨rfl, rfl⟩)
            go_quiet (fail)
            go_wp2_with (fail)
            go_roundg (5 - (r + 1))
            case measure => omega
            case rel => exact ⟨r + 1, by omega, rfl, by rw [HS2.out], by rw [HA2.out]; simp [h0], by go_num, Lib.hid (HF.out.trans' (Fr.drewN _ _ _))⟩
        · obtain rfl : r = 5 := by omega
          go_wp2_with (fail)
          go_meet
          case rel => exact ⟨by rw [csz_all], by rw [cany_all], HF⟩
    | false =>
      clear hB
      go_wp2_with (fail)
      go_loopg [5, 6, 10] N (fun gg vs va vi wr => ∃ i : Nat, i ≤ N ∧ gg = N - i ∧ vs = .int .i64 (nsz l i) ∧ va = .bool (anyS (l.take i)) ∧ vi = .int .i64 (i : Int) ∧ wr = w)
      case atStart => exact ⟨0, by omega, rfl, by rw [nsz_zero, HN.out], rfl, rfl, rfl⟩
      case round =>
        obtain ⟨i, hi, rfl, rfl, rfl, rfl, rfl⟩ := hrel
        by_cases hlt : i < N
        · have hltl : i < l.length := by rw [← HN.out]; exact hlt
          obtain ⟨u, hu⟩ : ∃ u, u = l[i] := ⟨_, rfl⟩
          have hss : i < s.size := by omega
          have hix : s[i]'hss = u := by
            rw [hu]
            have e : s.data.toList[i]'(by rw [← HL.out]; exact hltl) = s.data[i]'hss := by simp
            rw [show s[i]'hss = s.data[i]'hss from rfl, ← e]
            congr 1
            exact HL.out.symm
          have hu256 : u.toNat < 256 := u.toNat_lt
          have hub : (u.toNat : Int) < 256 := by omega
          have ct := Row.cell HROW.out u.toNat (tab_get v _ hu256)
          obtain ⟨S, hS⟩ : ∃ S, S = nsz l i := ⟨_, rfl⟩
          obtain ⟨A, hA⟩ : ∃ A, A = anyS (l.take i) := ⟨_, rfl⟩
          have hNN := HN.out
          have bS := nsz_bd l (i := i) (by omega)
          have bS2 := nsz_bd l (i := i + 1) (by omega)
          have hA2 := anyS_step hltl
          have hiI : (i : Int) < N := by omega
          rw [← hA, ← hu] at hA2
          rw [← hA, ← hS]
          cases hsub : subIx u with
          | none =>
            have hn := nsz_none hltl (by rw [← hu]; exact hsub)
            rw [HNIL.out u.toNat (subIx_none hsub)] at ct
            rw [← hS] at hn bS
            rw [hsub] at hA2
            have b1 := bS.1
            have b2 : S ≤ 6000000 := by omega
            have HA2 := Lib.hid hA2
            have HNs := Lib.hid hn
            clear hu hS hA hNN bS bS2 hA2 hsub hn
            go_wp2_with (fail)
            go_roundg (N - (i + 1))
            case measure => omega
            case rel => exact ⟨i + 1, by omega, rfl, by rw [HNs.out], by rw [HA2.out]; simp, by go_num, rfl⟩
          | some j =>
            have hn := nsz_some hltl (by rw [← hu]; exact hsub)
            obtain ⟨h5, hk⟩ := subIx_some hsub
            obtain ⟨g, cap, hv, _, _⟩ := HSET.out j h5
            rw [hk] at hv
            rw [hv] at ct
            obtain ⟨s1, s2⟩ := txt_size h5
            obtain ⟨Z, hZ⟩ : ∃ Z, Z = (txtB j).size := ⟨_, rfl⟩
            rw [← hZ] at hn s1 s2 ct
            obtain ⟨S2, hS2⟩ : ∃ S2, S2 = nsz l (i + 1) := ⟨_, rfl⟩
            rw [← hS, ← hS2] at hn
            rw [← hS] at bS
            rw [← hS2] at bS2
            rw [hsub] at hA2
            have b1 := bS.1
            have b2 : S ≤ 6000000 := by omega
            have b3 := bS2.1
            have b4 : S2 ≤ 6000000 := by omega
            have hsum : S + ((Z : Int) - 1) = S2 := hn.symm
            have HA2 := Lib.hid hA2
            have HS2 := Lib.hid hS2
            clear hu hS hA hNN bS bS2 hA2 hsub hn hv hk hZ hS2
            go_wp2_with (fail)
            go_roundg (N - (i + 1))
            case measure => omega
            case rel => exact ⟨i + 1, by omega, rfl, by rw [HS2.out], by rw [HA2.out]; simp, by go_num, rfl⟩
        · obtain rfl : N = i := by omega
          go_wp2_with (fail)
          go_meet
          case rel => exact ⟨by rw [HN.out, nsz_all], by rw [HN.out, List.take_length], Lib.hid (Fr.refl _ _)⟩
  case rest =>
    obtain ⟨rfl, rfl, HFC⟩ := hcut
    have HROWc : Hid (Row wc t (tabCells v (.slice ta 5 tc)) 99) := Lib.hid (HROW.out.fr HFC.out (fun h => h))
    have HSETc : Hid (∀ j, j < 5 → ∃ g cap, v (keyB j).toNat = .slice (some ⟨g, 0, none⟩) (txtB j).size cap ∧ Sl wc (some ⟨g, 0, none⟩) (byteCells (strB (txtB j)))) := Lib.hid (fun j hj => by
      obtain ⟨g, cap, e1, _, e3⟩ := HSET.out j hj
      exact ⟨g, cap, e1, Sl.fr e3 HFC.out (fun _ _ h => h)⟩)
    clear HROW HSET HK
    obtain ⟨E, hE⟩ : ∃ E, E = (escL l).length := ⟨_, rfl⟩
    obtain ⟨A, hA⟩ : ∃ A, A = anyS l := ⟨_, rfl⟩
    have bE := escL_len l
    rw [← hE, ← HN.out] at bE
    have bE0 : E ≤ 6000000 := by omega
    have HE := Lib.hid hE
    have HA := Lib.hid hA
    rw [← hE, ← hA]
    clear hE hA bE c256 hB
    cases A with
    | false =>
      have hRs : R = s := by
        rw [HR.out]; unfold escS; rw [← HL.out, escL_none HA.out.symm, HL.out]
      have HRs := Lib.hid hRs
      clear hRs
      go_wp2_with (fail)
      go_ret
      exact ⟨by rw [HRs.out]; rfl, HFC.out⟩
    | true =>
      obtain ⟨i0, hi, hz0, hz1, hz2⟩ := info_parts Tryd.Builder_Extra_169.infoByte
      have Hi := Lib.hid hi
      have Hz0 := Lib.hid hz0
      have Hz1 := Lib.hid hz1
      have hby : i0.bytes * E ≤ 281474976710656 := by rw [hz2]; omega
      clear hi hz0 hz1 hz2
      have hml : E ≤ maxLen := by unfold maxLen; omega
      go_wp2_with (at_make; go_must (refine wpList_make_row _ rfl _ _ 37 rfl 5 i0 (.int .u8 0) Tryd.underlying37 Hi.out Hz0.out Hz1.out rfl .i64 .i64 _ _ E rfl rfl rfl rfl hby hml ?_))
      intro w1 hr1 hf1 hlt1
      obtain ⟨g0, hg0⟩ : ∃ g0, g0 = wc.heap.size := ⟨_, rfl⟩
      rw [← hg0] at hr1 hlt1 ⊢
      have HG0 := Lib.hid hg0
      have HR0 : Hid (Row w1 g0 (bufRow E []) 5) := Lib.hid (by rw [bufRow_nil]; exact hr1)
      have HF1 := Lib.hid hf1
      clear hr1 hf1 hg0 hlt1
      go_wp2_with (fail)
      go_loopg [13, 14] N (fun gg vj vi wr => ∃ i : Nat, i ≤ N ∧ gg = N - i ∧ vj = .int .i64 ((escL (l.take i)).length : Int) ∧ vi = .int .i64 (i : Int) ∧ Hid (Row wr g0 (bufRow E (escL (l.take i))) 5) ∧ Hid (Fr Nothing wc wr))
      case atStart => exact ⟨0, by omega, rfl, rfl, rfl, HR0, HF1⟩
      case round =>
        obtain ⟨i, hi, rfl, rfl, rfl, HRR, HFF⟩ := hrel
        obtain ⟨J, hJ⟩ : ∃ J, J = (escL (l.take i)).length := ⟨_, rfl⟩
        rw [← hJ]
        by_cases hlt : i < N
        · have hltl : i < l.length := by rw [← HN.out]; exact hlt
          obtain ⟨u, hu⟩ : ∃ u, u = l[i] := ⟨_, rfl⟩
          have hss : i < s.size := by omega
          have hix : s[i]'hss = u := by
            rw [hu]
            have e : s.data.toList[i]'(by rw [← HL.out]; exact hltl) = s.data[i]'hss := by simp
            rw [show s[i]'hss = s.data[i]'hss from rfl, ← e]
            congr 1
            exact HL.out.symm
          have hu256 : u.toNat < 256 := u.toNat_lt
          have hub : (u.toNat : Int) < 256 := by omega
          have hrowr := HROWc.out.fr HFF.out (fun h => h)
          have ct := Row.cell hrowr u.toNat (tab_get v _ hu256)
          have hiI : (i : Int) < N := by omega
          have hst := escL_step hltl
          rw [← hu] at hst
          have hJ2 : J + (piece u).length ≤ E := by
            have e : escL l = escL (l.take (i + 1)) ++ escL (l.drop (i + 1)) := by rw [← escL_append, List.take_append_drop]
            have e2 := congrArg List.length e
            rw [hst, List.length_append, List.length_append, ← hJ, ← HE.out] at e2
            omega
          cases hsub : subIx u with
          | none =>
            rw [HNIL.out u.toNat (subIx_none hsub)] at ct
            rw [piece_none hsub] at hst hJ2
            rw [List.length_singleton] at hJ2
            have hJE : J < E := by omega
            have cg := Row.cell HRR.out J (by rw [hJ]; exact bufRow_at (by omega))
            have fg := Row.free HRR.out J
            have HRR2 : Hid (Row (wr.setCell ⟨g0, J, none⟩ (.int .u8 (u.toNat : Int))) g0 (bufRow E (escL (l.take (i + 1)))) 5) := Lib.hid (by
              have := Row.set HRR.out J (.int .u8 (u.toNat : Int))
              rw [hJ, bufRow_set (by omega), ← hst, ← hJ] at this
              exact this)
            have HFF2 : Hid (Fr Nothing wc (wr.setCell ⟨g0, J, none⟩ (.int .u8 (u.toNat : Int)))) := Lib.hid (HFF.out.trans (Fr.setCell (S := fun q => q = g0) (p := ⟨g0, J, none⟩) rfl _) (fun k hk h => by have := HG0.out; omega))
            have HST : Hid ((escL (l.take (i + 1))).length = J + 1) := Lib.hid (by rw [hst, List.length_append, ← hJ]; rfl)
            clear hu hJ hst hrowr hsub hJ2
            go_wp2_with (fail)
            go_roundg (N - (i + 1))
            case measure => omega
            case rel => exact ⟨i + 1, by omega, rfl, by rw [HST.out]; go_num, by go_num, HRR2, HFF2⟩
          | some j =>
            obtain ⟨h5, hk⟩ := subIx_some hsub
            obtain ⟨g, cap, hv, hsl⟩ := HSETc.out j h5
            rw [hk] at hv
            rw [hv] at ct
            obtain ⟨s1, s2⟩ := txt_size h5
            rw [piece_some hsub] at hst hJ2
            have hlz : (txtB j).data.toList.length = (txtB j).size := by simp
            rw [bc_txt] at hsl
            obtain ⟨p, hp⟩ : ∃ p, p = (txtB j).data.toList := ⟨_, rfl⟩
            obtain ⟨Z, hZ⟩ : ∃ Z, Z = (txtB j).size := ⟨_, rfl⟩
            rw [← hp, ← hZ] at hlz
            rw [← hp] at hsl hst hJ2
            rw [← hZ] at ct s1 s2
            rw [hlz] at hJ2
            have hJE : J ≤ E := by omega
            have hEJ : ¬ E = J := by omega
            have HSL : Hid (Sl wr.drew (some ⟨g, 0, none⟩) (bc p)) := Lib.hid (Sl.drew (Sl.fr hsl HFF.out (fun _ _ h => h)))
            have HRD : Hid (Row wr.drew g0 (bufRow E (escL (l.take i))) 5) := Lib.hid HRR.out.drew
            have HJ := Lib.hid hJ
            have HST := Lib.hid hst
            have HLZ := Lib.hid hlz
            clear hu hJ hst hrowr hsub hv hk hsl hp hZ hlz
            go_wp2_with (fail)
            have hB : Below g0 wc wr.drew := by rw [HG0.out]; exact (HFF.out.trans' (Fr.drew _ _)).fromN.belowB
            have hnn2 : (bc p).length = Nat.min Z (E - J) := by rw [bc_len, HLZ.out]; exact (Nat.min_eq_left (by omega)).symm
            have hfit : J + (bc p).length ≤ (bufRow E (escL (l.take i))).length := by rw [bc_len, HLZ.out, bufRow_len (by rw [← HJ.out]; omega)]; omega
            have hcells : ∀ j v, (bc p)[j]? = some v → wr.cell? ((⟨g, 0, none⟩ : Addr).add j) = some v := fun j v hv => by
              have hjl : j < (bc p).length := (List.getElem?_eq_some_iff.1 hv).1
              obtain ⟨b', o', e, hc⟩ := HSL.out.at_ hjl
              cases e
              have := hc j hjl
              rw [hv] at this
              rw [Addr.add_lit]; exact this
            have HB := Lib.hid hB
            have HNN2 := Lib.hid hnn2
            have HFIT := Lib.hid hfit
            have HCELLS := Lib.hid hcells
            clear hB hnn2 hfit hcells
            go_region_law (refine step_copy_splice rfl (.tmp 105) (.tmp 111) 37 37 rfl 5 Tryd.underlying37 (by kernel_rfl) _ _ _ _ _ _ rfl rfl g0 J (bufRow E (escL (l.take i))) 5 HRR.out (bc p) HNN2.out (fun _ => ⟨rfl, _, rfl, HCELLS.out⟩) HFIT.out (bc_one p) g0 wc HB.out (Nat.le_refl _) ?_; intro w2 hr2 hf2)
            have HRR2 : Hid (Row w2 g0 (bufRow E (escL (l.take (i + 1)))) 5) := Lib.hid (by
              have hr3 := hr2.out
              rw [HJ.out, bufRow_put (by rw [← HJ.out, HLZ.out]; omega), ← HST.out] at hr3
              exact hr3)
            have HFF2 : Hid (Fr Nothing wc w2) := Lib.hid (fr_of_below (by rw [← HG0.out]; exact hf2))
            have HST2 : Hid ((escL (l.take (i + 1))).length = J + Z) := Lib.hid (by rw [HST.out, List.length_append, ← HJ.out, HLZ.out])
            have hbl : (bc p).length = Z := by rw [bc_len, HLZ.out]
            clear hr2 hf2
            go_wp2_with (fail)
            go_roundg (N - (i + 1))
            case measure => omega
            case rel => exact ⟨i + 1, by omega, rfl, by rw [HST2.out]; go_num, by go_num, HRR2, HFF2⟩
        · obtain rfl : N = i := by omega
          have hrE : Row wr g0 (bc (escL l)) 5 := by
            have := HRR.out
            rw [HN.out, List.take_length, HE.out, bufRow_all] at this
            exact this
          have hcv := run_convert_bytes_back (P := Tryd.prog) wr 37 9 5 ⟨g0, 0, none⟩ E (escL l) Tryd.underlying37 Tryd.underlying5 Tryd.underlying9 (fun i hi => by
            have := hrE.cell i (v := .int .u8 ((escL l)[i].toNat : Int)) (by unfold bc; rw [List.getElem?_map, List.getElem?_eq_getElem hi]; rfl)
            rw [Addr.add_lit, Nat.zero_add]; exact this)
          have hRR : R = ⟨(escL l).toArray⟩ := by rw [HR.out]; unfold escS; rw [← HL.out]
          rw [← hRR, ← HE.out] at hcv
          have HFE : Hid (Fr Nothing w wr) := Lib.hid (HFC.out.trans' HFF.out)
          clear hrE hRR hJ
          go_wp2_with (fail)
          go_ret
          exact ⟨rfl, HFE.out⟩
end Go.Proofs.YtbpbghmhenilcaaDoor
