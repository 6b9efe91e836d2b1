/- An item's bytes, as text tells them. Condition: the item's two texts together are fewer than 2^48 bytes. -/
import Derived.Test.YtfedaolpanncoaaDig
import Derived.Test.YtfedaolpanncoaaConcB
import Derived.Test.YtfedaolpanncoaaFnv
import Derived.Laws.IdiomStrings
namespace Go.Proofs.Ytfedaolpanncoaa
open Go.RowKit

def byteCells (l : List Nat) : List Value := l.map fun (n : Nat) => Value.int .u8 (n : Int)
def strB (s : ByteArray) : List Nat := s.data.toList.map UInt8.toNat
def subByte (s : Int) : Nat := (IntKind.u8.wrap (wrap64 (48 + s))).toNat
def textB (x : Item) : List Nat := strB x.user ++ ([0] ++ (strB x.name ++ [0, subByte x.sub, if x.asked then 49 else 48, 10]))
theorem strB_lt (s : ByteArray) : ∀ c ∈ strB s, c < 256 := by
  intro c hc
  obtain ⟨b, _, rfl⟩ := List.mem_map.1 hc
  exact b.toNat_lt
theorem subByte_eq (s : Int) : IntKind.u8.wrap (wrap64 (48 + s)) = (subByte s : Int) ∧ subByte s < 256 := by
  unfold subByte
  generalize wrap64 (48 + s) = z
  have : IntKind.u8.wrap z = z % 256 := by simp [IntKind.wrap, IntKind.bits, IntKind.signed]
  rw [this]
  omega
theorem subByte_small {s : Int} (h0 : 0 ≤ s) (h1 : s < 4) : (subByte s : Int) = 48 + s := by
  rw [← (subByte_eq s).1, IntWalk.wrap64_in _ (by omega)]
  have : IntKind.u8.wrap (48 + s) = (48 + s) % 256 := by simp [IntKind.wrap, IntKind.bits, IntKind.signed]
  rw [this]; omega
theorem textB_lt (x : Item) : ∀ c ∈ textB x, c < 256 := by
  intro c hc
  simp only [textB, List.mem_append, List.mem_cons, List.not_mem_nil, or_false] at hc
  rcases hc with h | rfl | h | rfl | rfl | rfl | rfl
  · exact strB_lt _ c h
  · omega
  · exact strB_lt _ c h
  · omega
  · exact (subByte_eq _).2
  · split <;> omega
  · omega

theorem wpList_bytes_of {P : Program} {w : World} {ops : Array Oper} {rest : List Oper} {o : Oper} {a : Act} {Q : Exit → Act → World → Prop}
    (hg : o.guard = none) (src dst : TypeId) (x : Operand) (hop : o.op = Op.convert src dst x) (e : TypeId) (hs : P.underlying src = some .string) (hd : P.underlying dst = some (.slice e)) (he : P.underlying e = some (.int .u8))
    (s : ByteArray) (hx : a.eval x = .string s)
    (hK : ∀ c w', Sl w' (some ⟨w.heap.size, 0, none⟩) (byteCells (strB s)) → Fr Nothing w w' → wpList P ops Q rest (a.put o.dst (.slice (some ⟨w.heap.size, 0, none⟩) s.size c)) w') :
    wpList P ops Q (o :: rest) a w := by
  refine wpList_plain hg fun K hK' => ?_
  have hr := run_bytes_of_string (P := P) w src dst e s hs hd he
  unfold Oper.wp
  simp [execOp, hop, hx, hr, Result.andThen]
  refine hK' _ _ (hK _ _ (.inr ⟨w.heap.size, 0, rfl, fun i hi => ?_⟩) ((Fr.drew _ _).trans' (Fr.alloc _ _ _)))
  rw [Nat.zero_add, cell_of_row _ w.heap.size i _ e _ (heap_alloc_new w.drew _)]
  have hi' : i < s.data.size := by simpa [byteCells, strB] using hi
  unfold bytesRow
  rw [Array.getElem?_append_left (by simpa using hi')]
  simp only [byteCells, strB, List.map_map, Array.getElem?_map, List.getElem?_map, Array.getElem?_toList]
  rfl

theorem byte_one (l : List Nat) : ∀ u ∈ byteCells l, u.oneCell' = true := by
  intro u hu
  obtain ⟨n, _, rfl⟩ := List.mem_map.1 hu; rfl
theorem byte_len (l : List Nat) : (byteCells l).length = l.length := by simp [byteCells]
theorem strB_len (s : ByteArray) : (strB s).length = s.size := by simp [strB]

theorem text_end (x : Item) (w1 w2 w3 w4 : World) (g c1 c2 r : Nat) (n : Nat) (hn : n = if x.asked then 49 else 48) (g1 : Fr Nothing w1 w2) (fa : Fr Nothing w2 w3) (fb : Fr Nothing w3 w4)
    (s1 : Sl w1 (some ⟨g, 0, none⟩) (byteCells (strB x.user))) (r2 : Row w2 w1.heap.size [.int .u8 0] 5) (s2 : Sl w2 (some ⟨w1.heap.size + 1, 0, none⟩) (byteCells (strB x.name)))
    (r3 : Row w3 w2.heap.size [.int .u8 0, .int .u8 (subByte x.sub : Int), .int .u8 (n : Int), .int .u8 10] 5)
    (r4 : Row w4 r [Value.slice (some ⟨g, 0, none⟩) x.user.size c1, .slice (some ⟨w1.heap.size, 0, none⟩) 1 1, .slice (some ⟨w1.heap.size + 1, 0, none⟩) x.name.size c2, .slice (some ⟨w2.heap.size, 0, none⟩) 4 4] 48)
    (hx : x.user.size + x.name.size + 5 ≤ 281474976710656) :
    Calls Try.prog 36 #[.slice (some ⟨r, 0, none⟩) 4 4] w4 (Joined 5 (byteCells (textB x)) w4) := by
  have no : ∀ k, ¬ Nothing k := fun k h => h
  have f24 := fa.trans' fb
  have f14 := g1.trans' f24
  have hl1 : (byteCells (strB x.user)).length = x.user.size := by rw [byte_len, strB_len]
  have hl2 : (byteCells (strB x.name)).length = x.name.size := by rw [byte_len, strB_len]
  have h := concatB [⟨some ⟨g, 0, none⟩, c1, byteCells (strB x.user)⟩, ⟨some ⟨w1.heap.size, 0, none⟩, 1, [.int .u8 0]⟩, ⟨some ⟨w1.heap.size + 1, 0, none⟩, c2, byteCells (strB x.name)⟩, ⟨some ⟨w2.heap.size, 0, none⟩, 4, [.int .u8 0, .int .u8 (subByte x.sub : Int), .int .u8 (n : Int), .int .u8 10]⟩] (some ⟨r, 0, none⟩) 4 w4
    (by simp only [List.map_cons, List.map_nil, Part.val, hl1, hl2, List.length_cons, List.length_nil]; exact Sl.ofRow r4)
    (by
      intro p hp
      simp only [List.mem_cons, List.not_mem_nil, or_false] at hp
      rcases hp with rfl | rfl | rfl | rfl
      · exact ⟨fun h => by simp at h, s1.fr f14 (fun _ _ => no _), byte_one _⟩
      · exact ⟨fun h => by simp at h, (Sl.ofRow r2).fr f24 (fun _ _ => no _), by simp [Value.oneCell']⟩
      · exact ⟨fun h => by simp at h, s2.fr f24 (fun _ _ => no _), byte_one _⟩
      · exact ⟨fun h => by simp at h, (Sl.ofRow r3).fr fb (fun _ _ => no _), by simp [Value.oneCell']⟩)
    (by simp) (by simp only [total, List.flatMap_cons, List.flatMap_nil, List.length_append, hl1, hl2, List.length_cons, List.length_nil]; omega)
  have e : ([⟨some ⟨g, 0, none⟩, c1, byteCells (strB x.user)⟩, ⟨some ⟨w1.heap.size, 0, none⟩, 1, [.int .u8 0]⟩, ⟨some ⟨w1.heap.size + 1, 0, none⟩, c2, byteCells (strB x.name)⟩, ⟨some ⟨w2.heap.size, 0, none⟩, 4, [.int .u8 0, .int .u8 (subByte x.sub : Int), .int .u8 (n : Int), .int .u8 10]⟩] : List Part).flatMap Part.xs = byteCells (textB x) := by
    simp [byteCells, textB, hn]
  rw [e] at h
  exact h

set_option maxRecDepth 100000 in
set_option maxHeartbeats 1000000 in
theorem dig_text (x : Item) (w : World) (hx : x.user.size + x.name.size + 5 ≤ 281474976710656) :
    Calls Try.prog 22 #[.agg #[.string x.user, .string x.name, .int .i64 x.sub, .bool x.asked]] w (Joined 5 (byteCells (textB x)) w) := by
  have Hx := Lib.hid hx
  have hw : wrap64 (48 + x.sub) = wrap64 (48 + x.sub) := rfl
  have hu8 := (subByte_eq x.sub).1
  have hbox := Row.allocNew w [.string x.user, .string x.name, .int .i64 x.sub, .bool x.asked] 27
  have e0 := hbox.cell 0 rfl
  have e1 := hbox.cell 1 rfl
  have e2 := hbox.cell 2 rfl
  have e3 := hbox.cell 3 rfl
  clear hx hw
  cases ha : x.asked with
  | true =>
    rw [ha] at e0 e1 e2 e3 hbox
    have Hb := Lib.hid hbox
    clear hbox
    go_enter Try.func22, Try.ntmps22
    go_wp2_with (with_reducible refine wpList_bytes_of rfl 9 48 (.tmp 9) rfl 5 Try.underlying9 Try.underlying48 Try.underlying5 x.user rfl ?_)
    intro c1 w1 s1 f1
    have hb1 : Row w1 w.heap.size [.string x.user, .string x.name, .int .i64 x.sub, .bool true] 27 := Hb.out.fr f1 (fun h => h)
    have hb1' := hb1.allocOld (.cells #[.int .u8 0] 5)
    have d1 := hb1'.cell 1 rfl
    have Hb1 := Lib.hid hb1
    have S1 := Lib.hid s1
    clear hb1 hb1' s1 e0 e1 e2 e3
    go_wp2_with (with_reducible refine wpList_bytes_of rfl 9 48 (.tmp 13) rfl 5 Try.underlying9 Try.underlying48 Try.underlying5 x.name rfl ?_)
    intro c2 w2 s2 f2
    have g1 : Fr Nothing w1 w2 := (Fr.alloc _ _ _).trans' f2
    have hb2 : Row w2 w.heap.size [.string x.user, .string x.name, .int .i64 x.sub, .bool true] 27 := Hb1.out.fr g1 (fun h => h)
    have d12 := hb2.cell 2 rfl
    have hr2 : Row w2 w1.heap.size [.int .u8 0] 5 := (Row.allocNew w1 [.int .u8 0] 5).fr f2 (fun h => h)
    have R2 := Lib.hid hr2
    have S2 := Lib.hid s2
    clear hb2 s2 d1 hr2
    go_wp2_with (fail)
    have fa := Fr.alloc Nothing w2 (.cells #[.int .u8 0, .int .u8 (subByte x.sub : Int), .int .u8 49, .int .u8 10] 5)
    have hr3 : Row (w2.alloc (.cells #[.int .u8 0, .int .u8 (subByte x.sub : Int), .int .u8 49, .int .u8 10] 5)) w2.heap.size [.int .u8 0, .int .u8 (subByte x.sub : Int), .int .u8 49, .int .u8 10] 5 := Row.allocNew w2 [.int .u8 0, .int .u8 (subByte x.sub : Int), .int .u8 49, .int .u8 10] 5
    have hsz : (w2.alloc (.cells #[.int .u8 0, .int .u8 (subByte x.sub : Int), .int .u8 49, .int .u8 10] 5)).heap.size = w2.heap.size + 1 := by simp
    generalize w2.alloc (.cells #[.int .u8 0, .int .u8 (subByte x.sub : Int), .int .u8 49, .int .u8 10] 5) = w3 at fa hr3 hsz ⊢
    have hr4 := Row.allocNew w3 [Value.slice (some ⟨w.heap.size + 1, 0, none⟩) x.user.size c1, .slice (some ⟨w1.heap.size, 0, none⟩) 1 1, .slice (some ⟨w1.heap.size + 1, 0, none⟩) x.name.size c2, .slice (some ⟨w2.heap.size, 0, none⟩) 4 4] 48
    have fb := Fr.alloc Nothing w3 (.cells #[Value.slice (some ⟨w.heap.size + 1, 0, none⟩) x.user.size c1, .slice (some ⟨w1.heap.size, 0, none⟩) 1 1, .slice (some ⟨w1.heap.size + 1, 0, none⟩) x.name.size c2, .slice (some ⟨w2.heap.size, 0, none⟩) 4 4] 48)
    obtain ⟨w4, hw4⟩ : ∃ w4, w4 = w3.alloc (.cells #[Value.slice (some ⟨w.heap.size + 1, 0, none⟩) x.user.size c1, .slice (some ⟨w1.heap.size, 0, none⟩) 1 1, .slice (some ⟨w1.heap.size + 1, 0, none⟩) x.name.size c2, .slice (some ⟨w2.heap.size, 0, none⟩) 4 4] 48) := ⟨_, rfl⟩
    have ge := text_end x w1 w2 w3 w4 _ c1 c2 (w2.heap.size + 1) 49 (by rw [ha]; rfl) g1 fa (by rw [hw4]; exact fb) S1.out R2.out S2.out hr3 (by rw [hw4, ← hsz]; exact hr4) Hx.out
    have f04 : Fr Nothing w w4 := ((((Fr.alloc _ _ _).trans' f1).trans' g1).trans' fa).trans' (by rw [hw4]; exact fb)
    rw [← hw4]
    have F04 := Lib.hid f04
    clear hsz hw4 fb hr4 hr3 fa d12 f1 f2 g1 f04
    refine ge.mono ?_
    rintro e w5 ⟨a5, c5, rfl, co5⟩
    go_wp2_with (fail)
    go_ret
    exact ⟨a5, c5, rfl, co5.over F04.out⟩
  | false =>
    rw [ha] at e0 e1 e2 e3 hbox
    have Hb := Lib.hid hbox
    clear hbox
    go_enter Try.func22, Try.ntmps22
    go_wp2_with (with_reducible refine wpList_bytes_of rfl 9 48 (.tmp 9) rfl 5 Try.underlying9 Try.underlying48 Try.underlying5 x.user rfl ?_)
    intro c1 w1 s1 f1
    have hb1 : Row w1 w.heap.size [.string x.user, .string x.name, .int .i64 x.sub, .bool false] 27 := Hb.out.fr f1 (fun h => h)
    have hb1' := hb1.allocOld (.cells #[.int .u8 0] 5)
    have d1 := hb1'.cell 1 rfl
    have Hb1 := Lib.hid hb1
    have S1 := Lib.hid s1
    clear hb1 hb1' s1 e0 e1 e2 e3
    go_wp2_with (with_reducible refine wpList_bytes_of rfl 9 48 (.tmp 13) rfl 5 Try.underlying9 Try.underlying48 Try.underlying5 x.name rfl ?_)
    intro c2 w2 s2 f2
    have g1 : Fr Nothing w1 w2 := (Fr.alloc _ _ _).trans' f2
    have hb2 : Row w2 w.heap.size [.string x.user, .string x.name, .int .i64 x.sub, .bool false] 27 := Hb1.out.fr g1 (fun h => h)
    have d12 := hb2.cell 2 rfl
    have hr2 : Row w2 w1.heap.size [.int .u8 0] 5 := (Row.allocNew w1 [.int .u8 0] 5).fr f2 (fun h => h)
    have R2 := Lib.hid hr2
    have S2 := Lib.hid s2
    clear hb2 s2 d1 hr2
    go_wp2_with (fail)
    have fa := Fr.alloc Nothing w2 (.cells #[.int .u8 0, .int .u8 (subByte x.sub : Int), .int .u8 48, .int .u8 10] 5)
    have hr3 : Row (w2.alloc (.cells #[.int .u8 0, .int .u8 (subByte x.sub : Int), .int .u8 48, .int .u8 10] 5)) w2.heap.size [.int .u8 0, .int .u8 (subByte x.sub : Int), .int .u8 48, .int .u8 10] 5 := Row.allocNew w2 [.int .u8 0, .int .u8 (subByte x.sub : Int), .int .u8 48, .int .u8 10] 5
    have hsz : (w2.alloc (.cells #[.int .u8 0, .int .u8 (subByte x.sub : Int), .int .u8 48, .int .u8 10] 5)).heap.size = w2.heap.size + 1 := by simp
    generalize w2.alloc (.cells #[.int .u8 0, .int .u8 (subByte x.sub : Int), .int .u8 48, .int .u8 10] 5) = w3 at fa hr3 hsz ⊢
    have hr4 := Row.allocNew w3 [Value.slice (some ⟨w.heap.size + 1, 0, none⟩) x.user.size c1, .slice (some ⟨w1.heap.size, 0, none⟩) 1 1, .slice (some ⟨w1.heap.size + 1, 0, none⟩) x.name.size c2, .slice (some ⟨w2.heap.size, 0, none⟩) 4 4] 48
    have fb := Fr.alloc Nothing w3 (.cells #[Value.slice (some ⟨w.heap.size + 1, 0, none⟩) x.user.size c1, .slice (some ⟨w1.heap.size, 0, none⟩) 1 1, .slice (some ⟨w1.heap.size + 1, 0, none⟩) x.name.size c2, .slice (some ⟨w2.heap.size, 0, none⟩) 4 4] 48)
    obtain ⟨w4, hw4⟩ : ∃ w4, w4 = w3.alloc (.cells #[Value.slice (some ⟨w.heap.size + 1, 0, none⟩) x.user.size c1, .slice (some ⟨w1.heap.size, 0, none⟩) 1 1, .slice (some ⟨w1.heap.size + 1, 0, none⟩) x.name.size c2, .slice (some ⟨w2.heap.size, 0, none⟩) 4 4] 48) := ⟨_, rfl⟩
    have ge := text_end x w1 w2 w3 w4 _ c1 c2 (w2.heap.size + 1) 48 (by rw [ha]; rfl) g1 fa (by rw [hw4]; exact fb) S1.out R2.out S2.out hr3 (by rw [hw4, ← hsz]; exact hr4) Hx.out
    have f04 : Fr Nothing w w4 := ((((Fr.alloc _ _ _).trans' f1).trans' g1).trans' fa).trans' (by rw [hw4]; exact fb)
    rw [← hw4]
    have F04 := Lib.hid f04
    clear hsz hw4 fb hr4 hr3 fa d12 f1 f2 g1 f04
    refine ge.mono ?_
    rintro e w5 ⟨a5, c5, rfl, co5⟩
    go_wp2_with (fail)
    go_ret
    exact ⟨a5, c5, rfl, co5.over F04.out⟩
end Go.Proofs.Ytfedaolpanncoaa
