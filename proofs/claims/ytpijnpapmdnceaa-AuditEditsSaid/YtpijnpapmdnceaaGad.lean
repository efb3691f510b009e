/- 'append(s, make([]T, n)...)': so many zeros more. Bytes; eight of them as a number. The plain law of a block: byte by byte, or lane by lane. The digest, plain; the state behind each byte. Lists of bytes of the call's own: slices.Clone, and the padded bytes. The walk of the reference's digest. -/
import Derived.Test.YtpijnpapmdnceaaGaa
import Derived.Test.YtpijnpapmdnceaaGab
import Derived.Test.YtpijnpapmdnceaaGac
import Derived.WalkLawsBesides
import Derived.Laws.MakeOwn
import Derived.Laws.IdiomStrings

namespace Go.Proofs.Ytpijnpapmdnceaa
open Go Go.RowKit

theorem zeroCells_one (z : Value) (n : Nat) : Builtin.zeroCells #[z] n = (List.replicate n z).toArray := by
  unfold Builtin.zeroCells
  apply Array.ext
  · simp
  · intro i h1 h2
    have : i % 1 = 0 := Nat.mod_one i
    simp [this]

section
variable {P : Program} (w : World)

theorem run_append_zeros (base : Nat) (t u ty e : TypeId) (k : IntKind) (i : TypeInfo) (z : Value) (bytes : Nat) (ht : P.underlying t = some (.slice e)) (hu : P.underlying u = some (.int k)) (hi : P.info? e = some i) (hz : i.zero = some z)
    (hsize : i.size = 1) (hby : i.bytes = bytes) (hzs : z.cells = #[z]) (hz1 : z.oneCell' = true)
    (v : Value) (n : Nat) (xs : List Value) (hown : w.ownsRow base e 1 v n xs) (m : Nat)
    (h63 : n + m ≤ maxLen) (hbytes : (n + m) * bytes ≤ 140737488355328) (hbase : base ≤ w.heap.size) :
    ∃ v' w', (Builtin.append_ #[t, u] ty #[v, .int .i64 (m : Int)]).run P w = .ok v' w' ∧ w'.ownsRow base e 1 v' (n + m) (xs ++ List.replicate m z) ∧ w.grownBy w' v.ownBlock ∧
      (∀ k, v'.ownBlock = some k → v.ownBlock = some k ∨ w.heap.size ≤ k) := by
  subst hby
  have hsmall : n + m ≤ 9223372036854775807 := by simp only [maxLen] at h63; omega
  have hmm : m * i.bytes ≤ 281474976710656 := by have := Nat.mul_le_mul_right i.bytes (Nat.le_add_left m n); omega
  have hmi : ((m : Int) * (i.bytes : Int)) ≤ 281474976710656 := by rw [← Int.natCast_mul]; omega
  have hw : IntKind.i64.wrap (m : Int) = (m : Int) := IntWalk.i64_in _ ⟨by omega, by omega⟩
  have hw0 : IntKind.i64.wrap 0 = 0 := by decide
  have hxl : xs.length = n := by have := hown.1; omega
  have hlen : (xs ++ List.replicate m z).length = (n + m) * 1 := by rw [List.length_append, List.length_replicate, hxl]; omega
  have hn0 : ¬ ((m : Int) < 0) := by omega
  have hn48 : ¬ (281474976710656 < (m : Int) * (i.bytes : Int)) := by omega
  have hap : ∀ W : World, ((if m * i.size = 0 then pure #[] else do pure (Builtin.zeroCells (← zeroValue e).cells m) : Sem (Array Value)).run P W) = .ok (List.replicate m z).toArray W := by
    intro W
    by_cases hm : m = 0
    · subst hm; simp
    · rw [if_neg (by rw [hsize]; omega)]
      simp [zeroValue, typeInfo, hi, hz, hzs, zeroCells_one]
  have grown : ∀ (old : Nat), old < n + m → ∀ (row : Option Nat),
      (w.drew.alloc (.cells (xs.toArray ++ (List.replicate m z).toArray ++ Builtin.zeroCells z.cells (grownCap w (n + m) old e - (n + m))) e)).ownsRow base e 1
        (.slice (some ⟨w.heap.size, 0, none⟩) (n + m) (grownCap w (n + m) old e)) (n + m) (xs ++ List.replicate m z) ∧
      w.grownBy (w.drew.alloc (.cells (xs.toArray ++ (List.replicate m z).toArray ++ Builtin.zeroCells z.cells (grownCap w (n + m) old e - (n + m))) e)) row := by
    intro old ho row
    have hge := grownCap_ge w (n + m) old e
    have hcm : grownCap w (n + m) old e ≤ maxLen := grownCap_le_maxLen w (n + m) old e h63
    refine ⟨⟨hlen, .inr ⟨w.heap.size, _, _, rfl, hbase, heap_alloc_new w.drew _, hge, hcm, ?_, ?_⟩⟩, ⟨rfl, rfl, rfl, by simp, fun k hk _ => Below.heap_alloc w.drew _ k hk⟩⟩
    · rw [hzs]
      simp only [Array.size_append, List.size_toArray, size_zeroCells, hxl, List.length_replicate, List.length_cons, List.length_nil]
      omega
    · simp only [Array.toList_append, List.append_assoc]
      rw [← List.append_assoc, ← hlen]
      exact List.take_left
  rcases hown.2 with ⟨rfl, rfl⟩ | ⟨g, cap, cur, rfl, hbg, hg, hnc, hcm, hcs, htake⟩
  · have hx : xs = [] := List.eq_nil_of_length_eq_zero hxl
    subst hx
    by_cases hm : m = 0
    · subst hm
      refine ⟨.slice none 0 0, w, ?_, World.ownsRow_nil w base e 1, ⟨rfl, rfl, rfl, Nat.le_refl _, fun _ _ _ => rfl⟩, fun k hk => .inl hk⟩
      simp [Builtin.append_, run_underlying ht, run_underlying hu, sizeOf, typeInfo, hi, asInt, asIntOf, hw0]
    · have hg := grown 0 (by omega) (Value.ownBlock (.slice none 0 0))
      refine ⟨_, _, ?_, hg.1, hg.2, fun k hk => .inr ?_⟩
      · have h48' : ¬ (281474976710656 < Builtin.nextslicecap m 0 * i.bytes) := by rw [nextslicecap_zero (by omega)]; omega
        have h63' : ¬ (9223372036854775807 < (m : Int)) := by omega
        have hap' := hap w.drew
        simp [Builtin.append_, run_underlying ht, run_underlying hu, sizeOf, typeInfo, hi, asInt, asIntOf, hw, hn0, hn48, hm, h63', h48', Question.forced, zeroValue, hz, hzs, zeroCells_one, hsize, run_firstCells_none, newRow, grownCap]
      · simp [Value.ownBlock] at hk; omega
  · by_cases hroom : n + m ≤ cap
    · have hfit : n * 1 + m ≤ cur.size := by omega
      have hst := run_storeCells_at P g (n * 1) e (List.replicate m z) 0 cur w hg (by simpa using hfit) (fun u hu => by rw [List.eq_of_mem_replicate hu]; exact hz1)
      simp only [Nat.add_zero] at hst
      refine ⟨.slice (some ⟨g, 0, none⟩) (n + m) cap, w.setRow g (cur.toList.take (n * 1) ++ List.replicate m z ++ cur.toList.drop (n * 1 + (List.replicate m z).length)).toArray, ?_, ⟨hlen, .inr ⟨g, cap, _, rfl, hbg, setRow_heap w g cur _ e _ hg, hroom, hcm, ?_, ?_⟩⟩, ⟨rfl, rfl, rfl, by simp, fun k _ hk => setRow_other w g k _ (fun e => hk (by simp [Value.ownBlock, e]))⟩, fun k hk => .inl hk⟩
      · have hap' := hap w
        by_cases hm : m = 0
        · subst hm
          simp [Builtin.append_, run_underlying ht, run_underlying hu, sizeOf, typeInfo, hi, asInt, asIntOf, hw0, hnc, hsize, Addr.add_lit]
          simp at hst
          rw [hst]
          simp
        · simp [Builtin.append_, run_underlying ht, run_underlying hu, sizeOf, typeInfo, hi, asInt, asIntOf, hw, hn0, hn48, hm, hroom, zeroValue, hz, hzs, zeroCells_one, hsize, Addr.add_lit]
          simp at hst
          rw [hst]
          simp
      · simp only [List.size_toArray, List.length_append, List.length_take, List.length_drop, List.length_replicate, Array.length_toList]
        omega
      · rw [htake, ← hlen]
        exact List.take_left
    · have holds : ∀ j u, xs[j]? = some u → w.cell? ((⟨g, 0, none⟩ : Addr).add j) = some u := hown.cells (g := g) rfl
      have hgr := grown cap (by omega) (Value.ownBlock (.slice (some ⟨g, 0, none⟩) n cap))
      refine ⟨_, _, ?_, hgr.1, hgr.2, fun k hk => .inr ?_⟩
      · have hm : m ≠ 0 := by omega
        have hn : ¬ (n + m ≤ cap) := hroom
        have h63' : ¬ (9223372036854775807 < ((n : Int) + (m : Int))) := by omega
        have h48' : ¬ (281474976710656 < Builtin.nextslicecap (n + m) cap * i.bytes) := by have := growslice_fits (need := n + m) (old := cap) (by omega) hbytes; omega
        have hfo := run_firstCells_some (P := P) w.drew 1 n ⟨g, 0, none⟩ n cap xs (by omega) (by simpa using holds)
        simp [Builtin.append_, run_underlying ht, run_underlying hu, sizeOf, typeInfo, hi, asInt, asIntOf, hw, hn0, hn48, hm, hn, h63', h48', Question.forced, zeroValue, hz, hzs, zeroCells_one, hsize, hfo, newRow, grownCap]
      · simp [Value.ownBlock] at hk; omega

theorem wp_append_zeros {o : Oper} {a : Act} {K : Act → World → Prop} {Q : Exit → Act → World → Prop} (s x : Operand) (t u : TypeId) (k : IntKind)
    (ho : o.op = .call { callee := .builtin .append, args := #[s, x], argTypes := #[t, u] })
    (base : Nat) (e : TypeId) (i : TypeInfo) (z : Value) (bytes : Nat) (ht : P.underlying t = some (.slice e)) (hu : P.underlying u = some (.int k)) (hi : P.info? e = some i) (hz : i.zero = some z)
    (hsize : i.size = 1) (hby : i.bytes = bytes) (hzs : z.cells = #[z]) (hz1 : z.oneCell' = true)
    (v : Value) (n : Nat) (xs : List Value) (hs : a.eval s = v) (hown : w.ownsRow base e 1 v n xs)
    (m : Nat) (hx : a.eval x = .int .i64 (m : Int))
    (h63 : n + m ≤ maxLen) (hbytes : (n + m) * bytes ≤ 140737488355328) (hbase : base ≤ w.heap.size)
    (h : ∀ v' w', w'.ownsRow base e 1 v' (n + m) (xs ++ List.replicate m z) → w.grownBy w' v.ownBlock → (∀ k, v'.ownBlock = some k → v.ownBlock = some k ∨ w.heap.size ≤ k) → K (a.put o.dst v') w') : o.wp P a w K Q := by
  obtain ⟨v', w', hr, h2, h3, h4⟩ := run_append_zeros (P := P) w base t u o.type e k i z bytes ht hu hi hz hsize hby hzs hz1 v n xs hown m h63 hbytes hbase
  unfold Oper.wp execOp
  simp only [ho, resolve, invoke, builtin, Sem.run_bind, Sem.run_pure, Result.andThen_ok, List.map_toArray, List.map_cons, List.map_nil, hs, hx, hr]
  exact h v' w' h2 h3 h4
end
end Go.Proofs.Ytpijnpapmdnceaa

namespace Go.Proofs.Ytpijnpapmdnceaa
open Go Go.RowKit

abbrev B8 := BitVec 8
def flat8 (l : List B8) : List Value := l.map fun x => .int .u8 (x.toNat : Int)
def gb (l : List B8) (i : Nat) : B8 := l.getD i 0#8
/-- A list of bytes that can be read. -/
def ReadY (w : World) (v : Value) (l : List B8) : Prop :=
  (∃ a c, v = .slice a 0 c ∧ l = []) ∨ ∃ g off c, v = .slice (some ⟨g, off, none⟩) l.length c ∧ g < w.heap.size ∧ l.length ≤ maxLen ∧ ∀ i, i < l.length → w.cell? ⟨g, off + i, none⟩ = some (.int .u8 ((gb l i).toNat : Int))

theorem ReadY.form {w : World} {v : Value} {l : List B8} (h : ReadY w v l) : ∃ a c, v = .slice a l.length c := by
  rcases h with ⟨a, c, rfl, rfl⟩ | ⟨g, off, c, rfl, _⟩
  · exact ⟨a, c, rfl⟩
  · exact ⟨_, c, rfl⟩
theorem ReadY.at {w : World} {v : Value} {l : List B8} (h : ReadY w v l) {n : Nat} (hn : l.length = n) (hp : 0 < n) : ∃ g off c, v = .slice (some ⟨g, off, none⟩) n c ∧ g < w.heap.size ∧ n ≤ maxLen ∧ ∀ i, i < n → w.cell? ⟨g, off + i, none⟩ = some (.int .u8 ((gb l i).toNat : Int)) := by
  subst hn
  rcases h with ⟨_, _, _, h0⟩ | ⟨g, off, c, h1, h2, h3, h4⟩
  · rw [h0] at hp; exact absurd hp (Nat.lt_irrefl _)
  · exact ⟨g, off, c, h1, h2, h3, h4⟩
theorem ReadY.keep {F : Nat → Prop} {w w' : World} {v : Value} {l : List B8} (h : ReadY w v l) (hK : Keep F w w') (hF : ∀ k, v.ownBlock = some k → ¬ F k) : ReadY w' v l := by
  rcases h with h | ⟨g, off, c, h1, h2, h3, h4⟩
  · exact .inl h
  · refine .inr ⟨g, off, c, h1, Nat.lt_of_lt_of_le h2 hK.size, h3, fun i hi => (hK.cell (p := ⟨g, off + i, none⟩) h2 (hF g ?_)).trans (h4 i hi)⟩
    rw [h1]; rfl

/-- A byte in its place of a lane. -/
def inl8 (x : B8) (k : Nat) : L64 := (x.zeroExtend 64) <<< (8 * k)
def num (l : List B8) : Nat → L64
  | 0 => 0#64
  | k + 1 => num l k ||| inl8 (gb l k) k

theorem b8_lt (x : B8) : (x.toNat : Int) ≤ 255 := by have := x.isLt; omega
theorem ext8 (x : B8) : (x.zeroExtend 64).toNat = x.toNat := by
  have := x.isLt
  simp only [BitVec.truncate_eq_setWidth, BitVec.toNat_setWidth]
  omega
theorem inl8_val (x : B8) (k : Nat) : IntKind.u64.wrap ((x.toNat : Int) * 2 ^ (8 * k)) = ((inl8 x k).toNat : Int) := by
  have := shl_val (x.zeroExtend 64) (8 * k)
  rw [ext8] at this
  exact this

set_option maxRecDepth 10000 in
set_option maxHeartbeats 1000000 in
theorem number_any {w : World} {v : Value} {l : List B8} (h : ReadY w v l) (hl : l.length ≤ 8) :
    Calls Try.prog 33 #[v] w fun e w' => e = .returned (.int .u64 ((num l l.length).toNat : Int)) ∧ w = w' := by
  obtain ⟨a, c, hv⟩ := h.form
  have HV := hid hv
  have H := hid h
  subst hv
  obtain ⟨n, hn⟩ : ∃ n, l.length = n := ⟨_, rfl⟩
  have HN := hid hn
  rw [hn] at H HV hl ⊢
  clear h hn
  go_enter Try.func33, Try.ntmps33
  go_wp2_with fail
  go_loop [3, 8] (fun x i => ∃ k : Nat, k ≤ n ∧ i = .int .i64 k ∧ x = .int .u64 ((num l k).toNat : Int)) (fun _ i => n - (intOf i).toNat)
  case atStart => exact ⟨0, Nat.zero_le _, rfl, rfl⟩
  case round =>
    obtain ⟨k, hk, rfl, rfl⟩ := hrel
    by_cases hlt : k < n
    · have hlt' : (k : Int) < (n : Int) := by omega
      obtain ⟨g, off, c1, hv1, hg, hmx, hc⟩ := H.out.at HN.out (by omega)
      simp only [Value.slice.injEq] at hv1
      obtain ⟨rfl, -, rfl⟩ := hv1
      have kc := hc k hlt
      have NS : Hid (num l (k + 1) = num l k ||| inl8 (gb l k) k) := hid rfl
      obtain ⟨x, hx⟩ : ∃ x, gb l k = x := ⟨_, rfl⟩
      obtain ⟨o, ho⟩ : ∃ o, num l k = o := ⟨_, rfl⟩
      rw [hx] at kc NS
      rw [ho] at NS ⊢
      have e8 : IntKind.i64.wrap (8 * (k : Int)) = ((8 * k : Nat) : Int) := by rw [IntWalk.i64_in _ ⟨by omega, by omega⟩]; omega
      have b8 := b8_lt x
      have IV := hid (inl8_val x k)
      have OV := hid (or_val o (inl8 x k))
      unfold maxLen at hmx
      clear hc hx ho
      go_wp2_with fail
      go_round
      case rel => exact ⟨k + 1, by omega, by go_num, by rw [NS.out, IV.out, OV.out]⟩
      case measure => simp [intOf]; omega
    · obtain rfl : k = n := by omega
      have hlt' : ¬ ((k : Int) < (k : Int)) := by omega
      go_wp2
      go_ret
      exact ⟨rfl, rfl⟩

/-- Byte i of the padded bytes, of which there are so many. -/
def patb (l : List B8) (all i : Nat) : B8 := if i < l.length then gb l i else (if i = l.length then 6#8 else 0#8) + (if i + 1 = all then 128#8 else 0#8)

set_option maxHeartbeats 1000000 in
theorem rat_any {w : World} {v : Value} {l : List B8} (h : ReadY w v l) (all i : Nat) (h1 : l.length < all) (h2 : i < all) (h3 : all ≤ 100000) :
    Calls Try.prog 34 #[v, .int .i64 (i : Int), .int .i64 (all : Int)] w fun e w' => e = .returned (.int .u8 ((patb l all i).toNat : Int)) ∧ w = w' := by
  obtain ⟨a, c, hv⟩ := h.form
  have H := hid h
  subst hv
  obtain ⟨n, hn⟩ : ∃ n, l.length = n := ⟨_, rfl⟩
  have HN := hid hn
  have PB : Hid (patb l all i = if i < n then gb l i else (if i = n then 6#8 else 0#8) + (if i + 1 = all then 128#8 else 0#8)) := hid (by unfold patb; rw [hn])
  rw [hn] at H h1 ⊢
  clear h hn
  by_cases c1 : i < n
  · have c1' : (i : Int) < (n : Int) := by omega
    obtain ⟨g, off, c1, hv1, hg, hmx, hc⟩ := H.out.at HN.out (by omega)
    simp only [Value.slice.injEq] at hv1
    obtain ⟨rfl, -, rfl⟩ := hv1
    have kc := hc i c1
    have E := hid (PB.out.trans (if_pos c1))
    obtain ⟨x, hx⟩ : ∃ x, gb l i = x := ⟨_, rfl⟩
    rw [hx] at kc E
    have n1 : ((i : Int) == (n : Int)) = false := by simp; omega
    have n2 : ((i : Int) == (all : Int) - 1) = false := by simp; omega
    unfold maxLen at hmx
    clear hc hx c1
    go_enter Try.func34, Try.ntmps34
    go_wp2
    go_ret
    exact ⟨by rw [E.out]; rfl, rfl⟩
  · have c1' : ¬ ((i : Int) < (n : Int)) := by omega
    have E := PB.out.trans (if_neg c1)
    by_cases c2 : i = n
    · have n1 : ((i : Int) == (n : Int)) = true := by simp [c2]
      rw [if_pos c2] at E
      by_cases c3 : i + 1 = all
      · have n2 : ((i : Int) == (all : Int) - 1) = true := by simp; omega
        rw [if_pos c3] at E
        have E := hid E
        clear c1 c2 c3 H PB HN
        go_enter Try.func34, Try.ntmps34
        go_wp2
        go_ret
        exact ⟨by first | rfl | (rw [E.out]; rfl), rfl⟩
      · have n2 : ((i : Int) == (all : Int) - 1) = false := by simp; omega
        rw [if_neg c3] at E
        have E := hid E
        clear c1 c2 c3 H PB HN
        go_enter Try.func34, Try.ntmps34
        go_wp2
        go_ret
        exact ⟨by first | rfl | (rw [E.out]; rfl), rfl⟩
    · have n1 : ((i : Int) == (n : Int)) = false := by simp; omega
      rw [if_neg c2] at E
      by_cases c3 : i + 1 = all
      · have n2 : ((i : Int) == (all : Int) - 1) = true := by simp; omega
        rw [if_pos c3] at E
        have E := hid E
        clear c1 c2 c3 H PB HN
        go_enter Try.func34, Try.ntmps34
        go_wp2
        go_ret
        exact ⟨by first | rfl | (rw [E.out]; rfl), rfl⟩
      · have n2 : ((i : Int) == (all : Int) - 1) = false := by simp; omega
        rw [if_neg c3] at E
        have E := hid E
        clear c1 c2 c3 H PB HN
        go_enter Try.func34, Try.ntmps34
        go_wp2
        go_ret
        exact ⟨by first | rfl | (rw [E.out]; rfl), rfl⟩
end Go.Proofs.Ytpijnpapmdnceaa

namespace Go.Proofs.Ytpijnpapmdnceaa
open Go Go.RowKit

/-- Eight bytes from b on, added up. -/
def numX (f : Nat → B8) (b : Nat) : Nat → L64
  | 0 => 0#64
  | k + 1 => numX f b k ^^^ inl8 (f (b + k)) k

theorem inl8_low (x : B8) (k i : Nat) (h : i < 8 * k) : (inl8 x k).getLsbD i = false := by
  unfold inl8
  rw [BitVec.getLsbD_shiftLeft]
  simp [h]
theorem inl8_high (x : B8) (k i : Nat) (h : 8 * (k + 1) ≤ i) : (inl8 x k).getLsbD i = false := by
  unfold inl8
  rw [BitVec.getLsbD_shiftLeft]
  have : (BitVec.zeroExtend 64 x).getLsbD (i - 8 * k) = false := by
    show (BitVec.setWidth 64 x).getLsbD (i - 8 * k) = false
    rw [BitVec.getLsbD_setWidth, BitVec.getLsbD_of_ge x _ (by omega)]
    simp
  rw [this]
  simp
theorem numX_high (f : Nat → B8) (b : Nat) : ∀ k i, 8 * k ≤ i → (numX f b k).getLsbD i = false
  | 0, i, _ => by simp [numX]
  | k + 1, i, h => by
    rw [numX, BitVec.getLsbD_xor, numX_high f b k i (by omega), inl8_high _ k i (by omega)]
    rfl
theorem or_xor (a c : L64) (n : Nat) (ha : ∀ i, n ≤ i → a.getLsbD i = false) (hc : ∀ i, i < n → c.getLsbD i = false) : a ||| c = a ^^^ c := by
  apply BitVec.eq_of_getLsbD_eq
  intro i _
  rw [BitVec.getLsbD_or, BitVec.getLsbD_xor]
  by_cases h : i < n
  · rw [hc i h]; simp
  · rw [ha i (by omega)]; simp
theorem num_eq (l : List B8) (f : Nat → B8) (b : Nat) : ∀ k, (∀ i, i < k → gb l i = f (b + i)) → num l k = numX f b k
  | 0, _ => rfl
  | k + 1, h => by
    rw [num, numX, num_eq l f b k (fun i hi => h i (by omega)), h k (by omega)]
    exact or_xor _ _ (8 * k) (numX_high f b k) (inl8_low _ k)

/-- Lane by lane; byte by byte. -/
def lanesK (f : Nat → B8) (b : Nat) (s : List L64) (k : Nat) : List L64 := (List.range k).foldl (fun s i => s.set i (gl s i ^^^ numX f (b + 8 * i) 8)) s
def bytesK (f : Nat → B8) (b : Nat) (s : List L64) (k : Nat) : List L64 := (List.range k).foldl (fun s k => s.set (k / 8) (gl s (k / 8) ^^^ inl8 (f (b + k)) (k % 8))) s
theorem lanesK_succ (f : Nat → B8) (b : Nat) (s : List L64) (k : Nat) : lanesK f b s (k + 1) = (lanesK f b s k).set k (gl (lanesK f b s k) k ^^^ numX f (b + 8 * k) 8) := by
  unfold lanesK
  rw [List.range_succ, List.foldl_append]
  rfl
theorem bytesK_succ (f : Nat → B8) (b : Nat) (s : List L64) (k : Nat) : bytesK f b s (k + 1) = (bytesK f b s k).set (k / 8) (gl (bytesK f b s k) (k / 8) ^^^ inl8 (f (b + k)) (k % 8)) := by
  unfold bytesK
  rw [List.range_succ, List.foldl_append]
  rfl
theorem lanesK_len (f : Nat → B8) (b : Nat) (s : List L64) : ∀ k, (lanesK f b s k).length = s.length
  | 0 => rfl
  | k + 1 => by rw [lanesK_succ, List.length_set, lanesK_len f b s k]
theorem bytesK_len (f : Nat → B8) (b : Nat) (s : List L64) : ∀ k, (bytesK f b s k).length = s.length
  | 0 => rfl
  | k + 1 => by rw [bytesK_succ, List.length_set, bytesK_len f b s k]

theorem set_gl (s : List L64) (i : Nat) : s.set i (gl s i) = s := by
  by_cases h : i < s.length
  · unfold gl
    rw [List.getD_eq_getElem?_getD, List.getElem?_eq_getElem h]
    exact List.set_getElem_self h
  · exact List.set_eq_of_length_le (by omega)
theorem gl_here (s : List L64) (i : Nat) (x : L64) (h : i < s.length) : gl (s.set i x) i = x := by
  unfold gl
  rw [List.getD_eq_getElem?_getD, List.getElem?_set_self h]
  rfl

theorem bytes_lane (f : Nat → B8) (b : Nat) (s : List L64) (i : Nat) (hi : i < s.length) (h : bytesK f b s (8 * i) = lanesK f b s i) :
    ∀ r, r ≤ 8 → bytesK f b s (8 * i + r) = (lanesK f b s i).set i (gl (lanesK f b s i) i ^^^ numX f (b + 8 * i) r)
  | 0, _ => by rw [Nat.add_zero, h, numX, BitVec.xor_zero, set_gl]
  | r + 1, hr => by
    have e1 : (8 * i + r) / 8 = i := by omega
    have e2 : (8 * i + r) % 8 = r := by omega
    rw [← Nat.add_assoc, bytesK_succ, bytes_lane f b s i hi h r (by omega), e1, e2, gl_here _ _ _ (by rw [lanesK_len]; exact hi), List.set_set, numX, BitVec.xor_assoc, Nat.add_assoc]
theorem bytes_lanes (f : Nat → B8) (b : Nat) (s : List L64) : ∀ i, i ≤ s.length → bytesK f b s (8 * i) = lanesK f b s i
  | 0, _ => rfl
  | i + 1, h => by
    have := bytes_lane f b s i (by omega) (bytes_lanes f b s i (by omega)) 8 (Nat.le_refl _)
    rw [show 8 * (i + 1) = 8 * i + 8 by omega, this, lanesK_succ]
end Go.Proofs.Ytpijnpapmdnceaa

namespace Go.Proofs.Ytpijnpapmdnceaa
open Go Go.RowKit

theorem bytesK_zero (f : Nat → B8) (b : Nat) (s : List L64) : bytesK f b s 0 = s := rfl

/-- How many bytes there are, filled up to blocks. -/
def allN (n : Nat) : Nat := (n / 136 + 1) * 136
theorem allN_lt (n : Nat) : n < allN n ∧ allN n ≤ n + 136 := by unfold allN; omega
def padF (l : List B8) (i : Nat) : B8 := patb l (allN l.length) i
/-- The state behind so many blocks; behind so many bytes. -/
def dgS (l : List B8) : Nat → List L64
  | 0 => z25
  | j + 1 => perm (lanesK (padF l) (136 * j) (dgS l j) 17)
def stN (l : List B8) (n : Nat) : List L64 := bytesK (padF l) (136 * (n / 136)) (dgS l (n / 136)) (n % 136)

theorem perm_length (s : List L64) (h : s.length = 25) : (perm s).length = 25 := rnds_len h 24
theorem dgS_len (l : List B8) : ∀ j, (dgS l j).length = 25
  | 0 => rfl
  | j + 1 => by rw [dgS]; exact perm_length _ (by rw [lanesK_len, dgS_len l j])
theorem stN_len (l : List B8) (n : Nat) : (stN l n).length = 25 := by rw [stN, bytesK_len, dgS_len]
theorem stN_zero (l : List B8) : stN l 0 = z25 := rfl
theorem stN_mid (l : List B8) (n k : Nat) (hk : n % 136 = k) (h : k ≠ 135) : stN l (n + 1) = (stN l n).set (k / 8) (gl (stN l n) (k / 8) ^^^ inl8 (padF l n) (k % 8)) := by
  have e1 : (n + 1) / 136 = n / 136 := by omega
  have e2 : (n + 1) % 136 = k + 1 := by omega
  have e3 : 136 * (n / 136) + k = n := by omega
  unfold stN
  rw [e1, e2, hk, bytesK_succ, e3]
theorem stN_end (l : List B8) (n : Nat) (hk : n % 136 = 135) : stN l (n + 1) = perm ((stN l n).set 16 (gl (stN l n) 16 ^^^ inl8 (padF l n) 7)) := by
  have e1 : (n + 1) / 136 = n / 136 + 1 := by omega
  have e2 : (n + 1) % 136 = 0 := by omega
  have e3 : 136 * (n / 136) + 135 = n := by omega
  have h := bytes_lanes (padF l) (136 * (n / 136)) (dgS l (n / 136)) 17 (by rw [dgS_len]; omega)
  have h2 := bytesK_succ (padF l) (136 * (n / 136)) (dgS l (n / 136)) 135
  rw [e3] at h2
  rw [show 135 / 8 = 16 from rfl, show 135 % 8 = 7 from rfl] at h2
  unfold stN
  rw [e1, e2, hk, bytesK_zero, dgS, ← h, ← h2]
end Go.Proofs.Ytpijnpapmdnceaa

namespace Go.Proofs.Ytpijnpapmdnceaa
open Go Go.RowKit

theorem flat8_length (l : List B8) : (flat8 l).length = l.length := by simp [flat8]
theorem flat8_append (a b : List B8) : flat8 (a ++ b) = flat8 a ++ flat8 b := by simp [flat8]
theorem flat8_one (l : List B8) : ∀ v ∈ flat8 l, v.oneCell' = true := by
  intro v hv
  simp only [flat8, List.mem_map] at hv
  obtain ⟨x, _, rfl⟩ := hv
  rfl
theorem gb_get (l : List B8) (i : Nat) (h : i < l.length) : gb l i = l[i] := by simp [gb, h]
theorem flat8_get (l : List B8) (i : Nat) (h : i < l.length) : (flat8 l)[i]? = some (.int .u8 ((gb l i).toNat : Int)) := by
  simp [flat8, gb_get l i h, h]

/-- v is the call's own list l. -/
def OwnY (w : World) (v : Value) (l : List B8) : Prop := w.ownsRow 0 5 1 v l.length (flat8 l)
theorem OwnY.form {w : World} {v : Value} {l : List B8} (h : OwnY w v l) : ∃ a c, v = .slice a l.length c := owns_form h
theorem OwnY.reads {w : World} {v : Value} {l : List B8} (h : OwnY w v l) : ReadY w v l := by
  obtain ⟨h1, h2 | ⟨g, cap, cur, rfl, _, hg, hn, hc, hs, ht⟩⟩ := h
  · exact .inl ⟨none, 0, h2.1, List.eq_nil_of_length_eq_zero h2.2⟩
  · refine .inr ⟨g, 0, cap, rfl, lt_of_heap hg, Nat.le_trans hn hc, fun i hi => ?_⟩
    have hv := flat8_get l i hi
    rw [Nat.zero_add, cell_of_row w g i cur 5 (0, 0) hg]
    rw [← ht, List.getElem?_take] at hv
    split at hv
    · simpa using hv
    · cases hv
theorem OwnY.nil (w : World) : OwnY w (.slice none 0 0) [] := World.ownsRow_nil _ _ _ _
theorem OwnY.keep {F : Nat → Prop} {w w' : World} {v : Value} {l : List B8} (h : OwnY w v l) (hK : Keep F w w') (hF : ∀ k, v.ownBlock = some k → ¬ F k) : OwnY w' v l := owns_keep h hK hF
/-- A byte is stored. -/
theorem OwnY.set {w : World} {g n c : Nat} {l : List B8} (h : OwnY w (.slice (some ⟨g, 0, none⟩) n c) l) (i : Nat) (x : B8) : OwnY (w.setCell ⟨g, i, none⟩ (.int .u8 (x.toNat : Int))) (.slice (some ⟨g, 0, none⟩) n c) (l.set i x) := by
  obtain ⟨h1, ⟨h0, _⟩ | ⟨g', cap, cur, hv, hb, hg, hn, hc, hs, ht⟩⟩ := h
  · cases h0
  · simp only [Value.slice.injEq, Option.some.injEq, Addr.mk.injEq, and_true] at hv
    obtain ⟨rfl, rfl, rfl⟩ := hv
    have hst := heap_setCell_same w g i cur 5 (.int .u8 (x.toNat : Int)) hg
    refine ⟨by rw [flat8_length, List.length_set]; omega, .inr ⟨g, c, _, by rw [List.length_set], hb, hst, by rw [List.length_set]; exact hn, hc, by simpa using hs, ?_⟩⟩
    have e : flat8 (l.set i x) = (flat8 l).set i (.int .u8 (x.toNat : Int)) := by simp [flat8, List.map_set]
    rw [e, ← ht, List.length_set]
    simp only [Array.toList_setIfInBounds]
    rw [List.take_set]
theorem OwnY.block {w : World} {v : Value} {l : List B8} (h : OwnY w v l) (hl : 0 < l.length) : ∃ g c, v = .slice (some ⟨g, 0, none⟩) l.length c ∧ l.length ≤ c ∧ c ≤ maxLen ∧ ∀ i, i < l.length → w.cell? ⟨g, i, none⟩ = some (.int .u8 ((gb l i).toNat : Int)) ∧ w.frozen? ⟨g, i, none⟩ = false := by
  have hr := h.reads
  obtain ⟨h1, ⟨_, h0⟩ | ⟨g, cap, cur, rfl, hb, hg, hn, hc, hs, ht⟩⟩ := h
  · omega
  · refine ⟨g, cap, rfl, hn, hc, fun i hi => ⟨?_, frozen_of_row w g i _ _ hg⟩⟩
    rcases hr with ⟨_, _, h0, h2⟩ | ⟨g', off, c', hv, _, _, hcell⟩
    · rw [h2] at hl; exact absurd hl (Nat.lt_irrefl _)
    · simp only [Value.slice.injEq, Option.some.injEq, Addr.mk.injEq, and_true, true_and] at hv
      obtain ⟨⟨rfl, rfl⟩, rfl⟩ := hv
      have := hcell i hi
      rwa [Nat.zero_add] at this

theorem ReadY.src {w : World} {ad : Addr} {n c : Nat} {l : List B8} (h : ReadY w (.slice (some ad) n c) l) : Src w (.slice (some ad) n c) l.length 1 (flat8 l) := by
  obtain ⟨a, c', hv, rfl⟩ | ⟨g, off, c', hv, hg, hm, hc⟩ := h
  · simp only [Value.slice.injEq] at hv
    obtain ⟨rfl, rfl, rfl⟩ := hv
    exact .inr ⟨ad, c, rfl, rfl, fun j u hu => by simp [flat8] at hu, by simp [flat8]⟩
  · simp only [Value.slice.injEq, Option.some.injEq] at hv
    obtain ⟨rfl, rfl, rfl⟩ := hv
    refine .inr ⟨_, c, rfl, by simp [flat8], fun j u hu => ?_, flat8_one l⟩
    have hj : j < l.length := by
      have := (List.getElem?_eq_some_iff.1 hu).1
      rwa [flat8_length] at this
    rw [flat8_get l j hj] at hu
    cases hu
    have hadd : (⟨g, off, none⟩ : Addr).add j = ⟨g, off + j, none⟩ := by unfold Addr.add; split <;> simp_all
    rw [hadd]; exact hc j hj

theorem Try.infoY : (Try.prog.info? 5).map (fun i => (i.zero, i.size, i.bytes)) = some (some (.int .u8 0), 1, 1) := by kernel_rfl
theorem made_rowY (w : World) : (w.alloc (.cells #[] 5)).ownsRow 0 5 1 (.slice (some ⟨w.heap.size, 0, none⟩) 0 0) 0 [] := World.ownsRow_made w #[] 0 (Nat.zero_le _) (by simp [maxLen]) (by simp)

theorem one_srcY (w : World) (t : B8) : Src (w.alloc (.cells #[.int .u8 (t.toNat : Int)] 5)) (.slice (some ⟨w.heap.size, 0, none⟩) 1 1) 1 1 (flat8 [t]) := by
  refine .inr ⟨_, _, rfl, rfl, fun j u hu => ?_, by simp [Value.oneCell', flat8]⟩
  have hadd : (⟨w.heap.size, 0, none⟩ : Addr).add j = ⟨w.heap.size, j, none⟩ := by unfold Addr.add; split <;> simp_all
  rw [hadd, World.cell?_alloc_new]
  simpa [flat8] using hu

theorem wp_append_bytes (w : World) {o : Oper} {a : Act} {K : Act → World → Prop} {Q : Exit → Act → World → Prop} (s x : Operand)
    (ho : o.op = .call { callee := .builtin .append, args := #[s, x], argTypes := #[22, 22] })
    (v : Value) (l : List B8) (hs : a.eval s = v) (hown : OwnY w v l) (sv : Value) (m : Nat) (news : List B8) (hx : a.eval x = sv) (hsrc : Src w sv m 1 (flat8 news)) (hn : l.length + m ≤ 1000000)
    (h : ∀ v' w', OwnY w' v' (l ++ news) → (∀ k, v'.ownBlock = some k → v.ownBlock = some k ∨ w.heap.size ≤ k) → Keep (fun k => v.ownBlock = some k) w w' → K (a.put o.dst v') w') : o.wp Try.prog a w K Q := by
  obtain ⟨i0, hi, hz0, hz1, hz2⟩ := info_parts Try.infoY
  have hm : news.length = m := by
    rcases hsrc with ⟨_, h1, h2⟩ | ⟨_, _, _, h2, _⟩
    · simp [flat8] at h2; rw [h1, h2]; rfl
    · simpa [flat8] using h2
  refine wp_append_src w s x 22 ho 0 5 i0 (.int .u8 0) 1 1 Try.underlying22 hi hz0 hz1 hz2 rfl (by decide) v l.length (flat8 l) hs hown sv m _ hx hsrc (by unfold maxLen; omega) (by omega) (Nat.zero_le _) ?_
  intro v1 w1 o1 g1 f1
  refine h v1 w1 ?_ f1 (Keep.of_grown g1)
  unfold OwnY
  rw [List.length_append, flat8_append, hm]
  exact o1
theorem wp_append_zbytes (w : World) {o : Oper} {a : Act} {K : Act → World → Prop} {Q : Exit → Act → World → Prop} (s x : Operand)
    (ho : o.op = .call { callee := .builtin .append, args := #[s, x], argTypes := #[22, 3] })
    (v : Value) (l : List B8) (hs : a.eval s = v) (hown : OwnY w v l) (m : Nat) (hx : a.eval x = .int .i64 (m : Int)) (hn : l.length + m ≤ 1000000)
    (h : ∀ v' w', OwnY w' v' (l ++ List.replicate m 0#8) → (∀ k, v'.ownBlock = some k → v.ownBlock = some k ∨ w.heap.size ≤ k) → Keep (fun k => v.ownBlock = some k) w w' → K (a.put o.dst v') w') : o.wp Try.prog a w K Q := by
  obtain ⟨i0, hi, hz0, hz1, hz2⟩ := info_parts Try.infoY
  refine wp_append_zeros w s x 22 3 .i64 ho 0 5 i0 (.int .u8 0) 1 Try.underlying22 Try.underlying3 hi hz0 hz1 hz2 rfl rfl v l.length (flat8 l) hs hown m hx (by unfold maxLen; omega) (by omega) (Nat.zero_le _) ?_
  intro v1 w1 o1 g1 f1
  refine h v1 w1 ?_ f1 (Keep.of_grown g1)
  unfold OwnY
  have e : flat8 (List.replicate m 0#8) = List.replicate m (.int .u8 0) := by simp [flat8]
  rw [List.length_append, flat8_append, e, List.length_replicate]
  exact o1

set_option maxHeartbeats 400000 in
theorem clone8_any {w : World} {v : Value} {l : List B8} (h : ReadY w v l) (hn : l.length ≤ 1000000) :
    Calls Try.prog 45 #[v] w fun e w' => ∃ v', e = .returned v' ∧ OwnY w' v' l ∧ (∀ k, v'.ownBlock = some k → w.heap.size ≤ k) ∧ Keep (fun _ => False) w w' := by
  obtain ⟨i0, hi, hz0, hz1, hz2⟩ := info_parts Try.infoY
  have hi := hid hi
  have hz0 := hid hz0
  have hz1 := hid hz1
  have hz2 := hid hz2
  obtain ⟨a, c, rfl⟩ := h.form
  cases a with
  | none =>
    have hl : l = [] := by
      rcases h with ⟨_, _, _, h0⟩ | ⟨g, off, c', hv, _⟩
      · exact h0
      · simp at hv
    subst hl
    have e1 : ∀ W, (binOp .eql 22 (.slice none 0 c) (.slice none 0 0)).run Try.prog W = .ok (.bool true) W := fun W => by kernel_rfl
    clear h
    go_enter Try.func45, Try.ntmps45
    go_wp2
    go_ret
    exact ⟨_, rfl, OwnY.nil _, fun k hk => by simp [Value.ownBlock] at hk, Keep.refl _ _⟩
  | some ad =>
    have e1 : ∀ W, (binOp .eql 22 (.slice (some ad) l.length c) (.slice none 0 0)).run Try.prog W = .ok (.bool false) W := fun W => by kernel_rfl
    have hs := h.src.keep (F := fun _ => False) ((Keep.refl _ _).alloc (.cells #[] 5)) (fun _ _ h => h)
    have HS := hid hs
    clear h hs
    go_enter Try.func45, Try.ntmps45
    go_wp2_with (at_builtin; refine wpList_plain rfl (fun K hK => wp_append_src _ (.tmp 5) (.tmp 6) 22 rfl 0 5 i0 (.int .u8 0) 1 1 Try.underlying22 hi.out hz0.out hz1.out hz2.out rfl (by decide) _ 0 [] rfl (made_rowY w) _ l.length (flat8 l) rfl HS.out (by unfold maxLen; omega) (by omega) (Nat.zero_le _) ?_))
    intro v1 w1 o1 g1 f1
    refine hK _ _ ?_
    clear hK K
    have K1 : Keep (fun _ => False) w w1 := ((Keep.refl _ _).alloc _).grown g1 (fun k hk => .inr (Nat.le_of_eq (Option.some.inj hk)))
    obtain ⟨a1, c1, rfl⟩ := owns_form o1
    have O1 := hid o1
    have F1 := hid f1
    clear o1 g1 f1
    go_wp2
    go_ret
    refine ⟨_, rfl, ?_, fun k hk => ?_, K1⟩
    · have := O1.out
      unfold OwnY
      simpa using this
    · rcases F1.out k hk with h | h
      · exact Nat.le_of_eq (Option.some.inj h)
      · try simp at h
        omega

/-- The padded bytes. -/
def padL (l : List B8) : List B8 := (List.range (allN l.length)).map (padF l)
theorem padL_len (l : List B8) : (padL l).length = allN l.length := by simp [padL]
theorem padL_gb (l : List B8) (i : Nat) (h : i < allN l.length) : gb (padL l) i = padF l i := by
  rw [gb_get _ _ (by rw [padL_len]; exact h)]
  simp [padL]
/-- How many zeros. -/
def padM (n : Nat) : Nat := (136 - (n + 1) % 136) % 136
theorem padM_all (n : Nat) : n + 1 + padM n = allN n := by unfold padM allN; omega
theorem pad_eq (l : List B8) (x : B8) (hx : x = if padM l.length = 0 then 134#8 else 128#8) : ((l ++ [6#8]) ++ List.replicate (padM l.length) 0#8).set (l.length + padM l.length) x = padL l := by
  have ha := padM_all l.length
  apply List.ext_getElem
  · simp [padL_len]; omega
  · intro i h1 h2
    rw [padL_len] at h2
    have e := padL_gb l i h2
    rw [gb_get _ _ (by rw [padL_len]; exact h2)] at e
    rw [e, List.getElem_set]
    unfold padF patb
    by_cases c1 : l.length + padM l.length = i
    · rw [if_pos c1, hx, if_neg (show ¬ i < l.length by omega), if_pos (show i + 1 = allN l.length by omega)]
      by_cases c2 : padM l.length = 0
      · rw [if_pos c2, if_pos (show i = l.length by omega)]; rfl
      · rw [if_neg c2, if_neg (show ¬ i = l.length by omega)]; rfl
    · rw [if_neg c1]
      by_cases c3 : i < l.length
      · rw [if_pos c3, gb_get l i c3, List.getElem_append_left (by simp; omega), List.getElem_append_left c3]
      · rw [if_neg c3, if_neg (show ¬ i + 1 = allN l.length by omega)]
        by_cases c4 : i = l.length
        · subst c4
          simp
        · rw [if_neg c4, List.getElem_append_right (by simp; omega)]
          simp

set_option maxRecDepth 10000 in
set_option maxHeartbeats 1000000 in
theorem padded_any {w : World} {v : Value} {l : List B8} (h : ReadY w v l) (hn : l.length ≤ 1000) :
    Calls Try.prog 32 #[v] w fun e w' => ∃ v', e = .returned v' ∧ OwnY w' v' (padL l) ∧ (∀ k, v'.ownBlock = some k → w.heap.size ≤ k) ∧ Keep (fun _ => False) w w' := by
  obtain ⟨a, c, hv⟩ := h.form
  have H := hid h
  subst hv
  have PE := hid (pad_eq l _ rfl)
  have pm136 : padM l.length < 136 := Nat.mod_lt _ (by decide)
  obtain ⟨n, hl⟩ : ∃ n, l.length = n := ⟨_, rfl⟩
  have HL := hid hl
  rw [hl] at H PE hn pm136 ⊢
  obtain ⟨m, hm⟩ : ∃ m, padM n = m := ⟨_, rfl⟩
  rw [hm] at PE pm136
  have hrm2 : (136 - ((n : Int) + 1) % 136) % 136 = (m : Int) := by rw [← hm]; unfold padM; omega
  have HR2 := hid hrm2
  clear h hl hm hrm2
  go_enter Try.func32, Try.ntmps32
  go_wp2_with fail
  refine (clone8_any H.out (by rw [HL.out]; omega)).mono ?_
  rintro _ w1 ⟨v1, rfl, o1, f1, k1⟩
  obtain ⟨a1, c1, hv1⟩ := o1.form
  rw [HL.out] at hv1
  subst hv1
  have ka : Keep (fun _ => False) w1 (w1.alloc (.cells #[.int .u8 6] 5)) := (Keep.refl _ _).alloc _
  have hown := o1.keep ka (fun _ _ h => h)
  have hsrc := one_srcY w1 6#8
  go_wp2_with (at_builtin; refine wpList_plain rfl (fun K hK => wp_append_bytes _ (.tmp 5) (.tmp 6) rfl (.slice a1 n c1) l rfl hown _ 1 [6#8] rfl hsrc (by rw [HL.out]; omega) ?_))
  intro v2 w2 o2 f2 k2
  have K2 := (k1.trans ka).then k2 (fun y hy => .inr (f1 y hy))
  have F2 : ∀ y, v2.ownBlock = some y → w.heap.size ≤ y := fun y hy => (f2 y hy).elim (f1 y) (fun h => Nat.le_trans (k1.trans ka).size (by rw [World.size_alloc]; exact h))
  refine hK _ _ ?_
  clear hK K
  have l2 : (l ++ [6#8]).length = n + 1 := by rw [List.length_append, HL.out]; rfl
  obtain ⟨a2, c2, hv2⟩ := o2.form
  rw [l2] at hv2
  subst hv2
  clear f1 k1 o1 ka hown hsrc f2 k2
  have PG := hid (show gb ((l ++ [6#8]) ++ List.replicate m 0#8) (n + m) = 6#8 ∧ (if m = 0 then 134#8 else 128#8) = 134#8 ∨ gb ((l ++ [6#8]) ++ List.replicate m 0#8) (n + m) = 0#8 ∧ (if m = 0 then 134#8 else 128#8) = 128#8 from by
    rw [gb_get _ _ (by rw [List.length_append, l2, List.length_replicate]; omega)]
    by_cases c : m = 0
    · refine .inl ⟨?_, if_pos c⟩
      subst c
      rw [List.getElem_append_left (by rw [l2]; omega), List.getElem_append_right (by rw [HL.out]; omega)]
      simp [HL.out]
    · refine .inr ⟨?_, if_neg c⟩
      rw [List.getElem_append_right (by rw [l2]; omega)]
      simp)
  obtain ⟨L2, hL2⟩ : ∃ L, l ++ [6#8] = L := ⟨_, rfl⟩
  rw [hL2] at o2 l2 PG PE
  have L3l : Hid ((L2 ++ List.replicate m 0#8).length = n + 1 + m) := hid (by rw [List.length_append, l2, List.length_replicate])
  have L2l := hid l2
  clear hL2 l2
  go_wp2_with (at_builtin; refine wpList_plain rfl (fun K hK => wp_append_zbytes _ (.tmp 8) (.tmp 13) rfl (.slice a2 (n + 1) c2) L2 rfl o2 m (congrArg (Value.int .i64) HR2.out) (by rw [L2l.out]; omega) ?_))
  intro v3 w3 o3 f3 k3
  have K3 := hid (K2.then k3 (fun y hy => .inr (F2 y hy)))
  have F3 : Hid (∀ y, v3.ownBlock = some y → w.heap.size ≤ y) := hid (fun y hy => (f3 y hy).elim (F2 y) (fun h => Nat.le_trans K2.size h))
  refine hK _ _ ?_
  clear hK K
  have hyx := PG.out
  have P3 := PE.out
  have l3 := L3l.out
  obtain ⟨L3, hL3⟩ : ∃ L, L2 ++ List.replicate m 0#8 = L := ⟨_, rfl⟩
  rw [hL3] at o3 l3 hyx P3
  clear hL3 PG PE L3l
  obtain ⟨g, c3, hv3, hc1, hc2, hcell⟩ := o3.block (by rw [l3]; omega)
  rw [l3] at hv3 hc1
  subst hv3
  obtain ⟨kc, kf⟩ := hcell (n + m) (by rw [l3]; omega)
  have O3 := hid o3
  have n3 : (((n + 1 + m : Nat) : Int) - 1) = ((n + m : Nat) : Int) := by omega
  unfold maxLen at hc2
  clear o3 o2 l3 hcell f3 k3 K2 F2 HR2
  rcases hyx with ⟨hy, hx⟩ | ⟨hy, hx⟩
  all_goals
    rw [hy] at kc
    rw [hx] at P3
    have P3 := hid P3
    have OS := hid (O3.out.set (n + m) (if m = 0 then 134#8 else 128#8))
    rw [hx] at OS
    clear hy hx
    go_wp2_with fail
    go_ret
    refine ⟨_, rfl, ?_, F3.out, K3.out.setCell (.inr (F3.out g rfl)) _⟩
    have := OS.out
    rw [P3.out] at this
    exact this
end Go.Proofs.Ytpijnpapmdnceaa

namespace Go.Proofs.Ytpijnpapmdnceaa
open Go Go.RowKit

/-- Byte i of a state. -/
def byt (s : List L64) (i : Nat) : B8 := (gl s (i / 8) >>> (8 * (i % 8))).setWidth 8
theorem byt_val (X : L64) (n : Nat) : (X.toNat : Int) / 2 ^ n % 256 = (((X >>> n).setWidth 8).toNat : Int) := by
  rw [shr_val, BitVec.toNat_setWidth]; omega
def dgB (s : List L64) : List B8 := (List.range 32).map (byt s)
/-- The digest of bytes. -/
def dgt (l : List B8) : List B8 := dgB (dgS l (allN l.length / 136))
theorem dgt_len (l : List B8) : (dgt l).length = 32 := by simp [dgt, dgB]
/-- A text of these bytes. -/
def bstr (l : List B8) : Value := .string ⟨(l.map UInt8.ofBitVec).toArray⟩
theorem stN_all (l : List B8) : stN l (allN l.length) = dgS l (allN l.length / 136) := by
  have h : allN l.length % 136 = 0 := by unfold allN; omega
  rw [stN, h]; rfl
/-- The first k of the 32 bytes; zeros behind. -/
def outK (s : List L64) (k : Nat) : List B8 := (List.range 32).map fun i => if i < k then byt s i else 0#8
theorem outK_len (s : List L64) (k : Nat) : (outK s k).length = 32 := by simp [outK]
theorem outK_zero (s : List L64) : outK s 0 = List.replicate 32 0#8 := by simp [outK]; rfl
theorem outK_all (s : List L64) : outK s 32 = dgB s := by
  unfold outK dgB
  exact List.map_congr_left fun i hi => if_pos (List.mem_range.1 hi)
theorem outK_succ (s : List L64) (k : Nat) (h : k < 32) : (outK s k).set k (byt s k) = outK s (k + 1) := by
  apply List.ext_getElem
  · simp [outK]
  · intro i h1 h2
    rw [List.getElem_set]
    simp only [outK, List.getElem_map, List.getElem_range]
    by_cases c : k = i
    · subst c; rw [if_pos rfl, if_pos (by omega)]
    · rw [if_neg c]
      by_cases c2 : i < k
      · rw [if_pos c2, if_pos (by omega)]
      · rw [if_neg c2, if_neg (by omega)]

theorem madeCells_one (z : Value) (n : Nat) : madeCells #[z] n = (List.replicate n z).toArray := by
  unfold madeCells
  apply Array.ext
  · simp
  · intro i h1 h2
    have : i % 1 = 0 := Nat.mod_one i
    simp [this]
theorem wp_make_bytes (w : World) {o : Oper} {a : Act} {K : Act → World → Prop} {Q : Exit → Act → World → Prop} (x y : Operand) (ho : o.op = .makeSlice 22 x y) (n m : Nat)
    (hx : a.eval x = .int .i64 (n : Int)) (hy : a.eval y = .int .i64 (m : Int)) (hnm : n ≤ m) (hm : m ≤ 1000000)
    (h : ∀ w', OwnY w' (.slice (some ⟨w.heap.size, 0, none⟩) n m) (List.replicate n 0#8) → Keep (fun _ => False) w w' → K (a.put o.dst (.slice (some ⟨w.heap.size, 0, none⟩) n m)) w') : o.wp Try.prog a w K Q := by
  obtain ⟨i0, hi, hz0, hz1, hz2⟩ := info_parts Try.infoY
  have hr := run_make (P := Try.prog) w 22 5 i0 (.int .u8 0) Try.underlying22 hi hz0 .i64 .i64 (n : Int) (m : Int) (by omega) (by omega) (by rw [hz2]; omega) (by omega)
  rw [hz1] at hr
  simp only [Int.toNat_natCast, Nat.mul_one] at hr
  unfold Oper.wp execOp
  simp only [ho, hx, hy, Sem.run_bind, Sem.run_pure, Result.andThen_ok, hr]
  refine h _ ?_ ((Keep.refl _ _).alloc _)
  refine ⟨by simp [flat8], .inr ⟨w.heap.size, m, _, by simp, Nat.zero_le _, heap_alloc_new w _, by simpa using hnm, by unfold maxLen; omega, by rw [size_madeCells]; omega, ?_⟩⟩
  have e : (Value.int .u8 0).cells = #[.int .u8 0] := rfl
  rw [e, madeCells_one]
  simp [flat8]
  omega

theorem bytes_conv {W : World} {a : Option Addr} {n c : Nat} {l : List B8} (h : ReadY W (.slice a n c) l) : (convert 22 9 (.slice a n c)).run Try.prog W = .ok (bstr l) W := by
  have go : ∀ ad, n = l.length → (∀ j (hj : j < (l.map UInt8.ofBitVec).length), W.cell? (ad.add j) = some (.int .u8 ((l.map UInt8.ofBitVec)[j].toNat : Int))) → (convert 22 9 (.slice (some ad) n c)).run Try.prog W = .ok (bstr l) W := by
    intro ad hn hc
    have := run_convert_bytes_back (P := Try.prog) W 22 9 5 ad c (l.map UInt8.ofBitVec) Try.underlying22 Try.underlying5 Try.underlying9 hc
    rw [List.length_map, ← hn] at this
    exact this
  obtain ⟨a', c', hv, rfl⟩ | ⟨g, off, c', hv, hg, hm, hc⟩ := h
  · simp only [Value.slice.injEq] at hv
    obtain ⟨rfl, rfl, rfl⟩ := hv
    cases a with
    | none =>
      rw [run_convert_bytes_string W 22 9 5 none 0 c Try.underlying22 Try.underlying5 Try.underlying9]
      rfl
    | some ad => exact go ad rfl (fun j hj => by simp at hj)
  · simp only [Value.slice.injEq] at hv
    obtain ⟨rfl, rfl, rfl⟩ := hv
    refine go _ rfl (fun j hj => ?_)
    rw [List.length_map] at hj
    have hadd : (⟨g, off, none⟩ : Addr).add j = ⟨g, off + j, none⟩ := by unfold Addr.add; split <;> simp_all
    rw [hadd, hc j hj, gb_get l j hj]
    simp

set_option maxRecDepth 10000 in
set_option maxHeartbeats 1000000 in
theorem rof_any {w : World} {v : Value} {l : List B8} (h : ReadY w v l) (hl : l.length ≤ 1000) :
    Calls Try.prog 15 #[v] w fun e w' => e = .returned (bstr (dgt l)) ∧ Keep (fun _ => False) w w' := by
  obtain ⟨a, c, hv⟩ := h.form
  have H := hid h
  subst hv
  obtain ⟨n, hn⟩ : ∃ n, l.length = n := ⟨_, rfl⟩
  have HN := hid hn
  have hal := allN_lt n
  have AD : Hid (allN n = (n / 136 + 1) * 136) := hid rfl
  have PF : Hid (∀ i, padF l i = patb l (allN n) i) := hid (by intro i; unfold padF; rw [hn])
  rw [hn] at H hl ⊢
  obtain ⟨al, hAl⟩ : ∃ al, allN n = al := ⟨_, rfl⟩
  rw [hAl] at hal AD PF
  have dv : (n : Int).tdiv 136 = ((n / 136 : Nat) : Int) := by rw [Int.tdiv_eq_ediv_of_nonneg (by omega)]; rfl
  have dm : IntKind.i64.wrap (((n / 136 : Nat) : Int) + 1) * 136 = (al : Int) := by rw [IntWalk.i64_in _ ⟨by omega, by omega⟩, AD.out]; omega
  have DA : Hid (dgt l = dgB (stN l al)) := hid (by rw [dgt, ← stN_all, hn, hAl])
  have zr : Hid (stN l 0 = z25) := hid (stN_zero l)
  clear h hn hAl
  have q1 : RowL (w.alloc (.cells (stv z25).toArray 28)) w.heap.size 28 z25 := heap_alloc_new w _
  have kk : Keep (fun _ => False) w (w.alloc (.cells (stv z25).toArray 28)) := (Keep.refl _ _).alloc _
  have q1 := hid q1
  have r1 := hid (q1.out.row (s' := z25))
  have rk := hid (kk.setRow (g := w.heap.size) (Nat.le_refl _) (stv z25).toArray)
  clear kk
  go_enter Try.func15, Try.ntmps15
  go_wp2_with (first | (with_reducible refine wpList_bd built37 rfl rfl ?_) | ((with_reducible refine wpList_st (.tmp 4) (.tmp 14) rfl rfl _ rfl z25 rfl rfl z25 rfl ?_ ?_); exact q1.out))
  clear q1
  rw [show ((n : Int) / 136 + 1) * 136 = (al : Int) from by have := AD.out; omega]
  go_loopw [5] (fun i wr => ∃ k : Nat, k ≤ al ∧ i = .int .i64 k ∧ RowL wr w.heap.size 28 (stN l k) ∧ Keep (fun _ => False) w wr) (fun i _ => al - (intOf i).toNat)
  case atStart => exact ⟨0, Nat.zero_le _, rfl, r1.out, rk.out⟩
  case round =>
    obtain ⟨k, hk, rfl, hR, hK⟩ := hrel
    have R := hid hR
    have KK := hid hK
    have HR := hid (H.out.keep hK (fun _ _ h => h))
    clear r1 rk hR hK
    by_cases hlt : k < al
    · have hlt' : (k : Int) < (al : Int) := by omega
      have SL := hid (stN_len l k)
      have SM := hid (stN_mid l k)
      have SE := hid (stN_end l k)
      obtain ⟨u, hu⟩ : ∃ u, stN l k = u := ⟨_, rfl⟩
      rw [hu] at R SL SM SE
      obtain ⟨m, hm⟩ : ∃ m, k % 136 = m := ⟨_, rfl⟩
      have MD := hid hm
      have m136 : m < 136 := by omega
      have hrm : (k : Int).tmod 136 = (m : Int) := by rw [Int.tmod_eq_emod_of_nonneg (by omega), ← hm]; rfl
      obtain ⟨q, hq⟩ : ∃ q, m / 8 = q := ⟨_, rfl⟩
      obtain ⟨r, hr⟩ : ∃ r, m % 8 = r := ⟨_, rfl⟩
      have q17 : q < 17 := by omega
      have r8 : r < 8 := by omega
      have hqd : (m : Int).tdiv 8 = (q : Int) := by rw [Int.tdiv_eq_ediv_of_nonneg (by omega), ← hq]; rfl
      have hrd : (m : Int).tmod 8 = (r : Int) := by rw [Int.tmod_eq_emod_of_nonneg (by omega), ← hr]; rfl
      have hqi : (q : Int) < 25 := by omega
      have wq : IntKind.i64.wrap (q : Int) = (q : Int) := IntWalk.i64_in _ ⟨by omega, by omega⟩
      have wr8 : IntKind.i64.wrap (8 * (r : Int)) = ((8 * r : Nat) : Int) := by rw [IntWalk.i64_in _ ⟨by omega, by omega⟩]; omega
      have cq := R.out.cell q (by rw [SL.out]; omega)
      have fq := R.out.fro q
      have PFk := hid (PF.out k)
      obtain ⟨x, hx⟩ : ∃ x, patb l al k = x := ⟨_, rfl⟩
      have HX := hid hx
      obtain ⟨X, hX⟩ : ∃ X, gl u q = X := ⟨_, rfl⟩
      have HXX := hid hX
      rw [hX] at cq
      have b8 := b8_lt x
      have IV := hid (inl8_val x r)
      have EQ : Hid (bits BinOp.xor .u64 (X.toNat : Int) (IntKind.u64.wrap (IntKind.u64.wrap (x.toNat : Int) * 2 ^ min (IntKind.u64.wrap (8 * (r : Int))).toNat 64)) = ((X ^^^ inl8 x r).toNat : Int)) := hid (by
        have e1 : IntKind.u64.wrap (x.toNat : Int) = (x.toNat : Int) := by rw [IntKind.wrap_u64]; omega
        have e2 : IntKind.u64.wrap (8 * (r : Int)) = ((8 * r : Nat) : Int) := by rw [IntKind.wrap_u64]; omega
        rw [e1, e2, Int.toNat_natCast, Nat.min_eq_left (by omega), IV.out, xor_val])
      have HQ := hid hq
      have HRr := hid hr
      clear hu hm hq hr hx hX
      go_wp2_with fail
      refine wp_region_text [0,0,0,0,0,0,0,2,0,0,0,0,0,0,0,0,3] (fun W => W.cell? ⟨w.heap.size, q, none⟩ = some (.int .u64 (X.toNat : Int))) (by kernel_rfl) (by kernel_rfl) cq ?_
      repeat (first
        | (refine' wpT_calm (v := _) (by rfl) (fun W hW => ?_) ?_; rotate_left
           · ((try dsimp only at hW); go_simp; first | done | rfl)
           simp only [Act.put, List.setIfInBounds_toArray, List.set_cons_zero, List.set_cons_succ])
        | (refine' wpT_reads (v := _) (by rfl) ?_ ?_; rotate_left
           · (go_simp; first | done | rfl)
           simp only [Act.put, List.setIfInBounds_toArray, List.set_cons_zero, List.set_cons_succ])
        | (refine wpT_skip (by rfl) rfl ?_; simp only [Act.put, List.setIfInBounds_toArray, List.set_cons_zero, List.set_cons_succ])
        | (refine wpT_does (by rfl) (fun K hK => ?_); go_simp; refine hK _ _ ?_ ?_
           · (trivial)
           clear hK K; try simp only [Act.put, List.setIfInBounds_toArray, List.set_cons_zero, List.set_cons_succ])
        | (refine wpT_last (by rfl) (fun K hK => ?_); go_simp; refine hK _ _ ?_; clear hK K)
        | (refine wpT_nil ?_))
      refine wpT_does (by rfl) (fun K hK => ?_)
      go_simp
      refine (rat_any (HR.out.keep ((Keep.refl (fun _ => False) _).drew) (fun _ _ h => h)) al k (by rw [HN.out]; exact hal.1) hlt (by omega)).mono ?_
      rintro _ _ ⟨rfl, rfl⟩
      rw [HX.out]
      refine hK _ _ cq ?_
      clear hK K
      try simp only [List.getElem_toArray, List.getElem_cons_zero, List.getElem_cons_succ, Act.put, List.setIfInBounds_toArray, List.set_cons_zero, List.set_cons_succ]
      repeat (first
        | (refine' wpT_calm (v := _) (by rfl) (fun W hW => ?_) ?_; rotate_left
           · ((try dsimp only at hW); go_simp; first | done | rfl)
           simp only [Act.put, List.setIfInBounds_toArray, List.set_cons_zero, List.set_cons_succ])
        | (refine' wpT_reads (v := _) (by rfl) ?_ ?_; rotate_left
           · (go_simp; first | done | rfl)
           simp only [Act.put, List.setIfInBounds_toArray, List.set_cons_zero, List.set_cons_succ])
        | (refine wpT_skip (by rfl) rfl ?_; simp only [Act.put, List.setIfInBounds_toArray, List.set_cons_zero, List.set_cons_succ])
        | (refine wpT_does (by rfl) (fun K hK => ?_); go_simp; refine hK _ _ ?_ ?_
           · (trivial)
           clear hK K; try simp only [Act.put, List.setIfInBounds_toArray, List.set_cons_zero, List.set_cons_succ])
        | (refine wpT_last (by rfl) (fun K hK => ?_); go_simp; refine hK _ _ ?_; clear hK K)
        | (refine wpT_nil ?_))
      rw [EQ.out]
      have R1 : Hid (RowL (wr.setCell ⟨w.heap.size, q, none⟩ (.int .u64 ((X ^^^ inl8 x r).toNat : Int))).drew w.heap.size 28 (u.set q (X ^^^ inl8 x r))) := hid (RowL.set (w := wr.drew) R.out q (X ^^^ inl8 x r))
      have K1 := hid ((KK.out.setCell (p := ⟨w.heap.size, q, none⟩) (.inr (Nat.le_refl _)) (.int .u64 ((X ^^^ inl8 x r).toNat : Int))).drew)
      clear dv dm hrm hqd hrd hqi wq wr8 cq fq b8 hlt'
      by_cases h135 : m = 135
      · have hmb : ((m : Int) == 135) = true := by simp [h135]
        have q16 : q = 16 := by have := HQ.out; omega
        have r7 : r = 7 := by have := HRr.out; omega
        have E : Hid (stN l (k + 1) = perm (u.set q (X ^^^ inl8 x r))) := hid (by
          have h1 : k % 136 = 135 := by rw [MD.out, h135]
          have h2 := SE.out h1
          rw [PFk.out, HX.out] at h2
          have h3 := HXX.out
          rw [q16] at h3 ⊢
          rw [r7, h2, h3])
        have hl2 : (u.set q (X ^^^ inl8 x r)).length = 25 := by rw [List.length_set]; exact SL.out
        have hp2 := perm_length _ hl2
        obtain ⟨u2, hu2⟩ : ∃ u2, u.set q (X ^^^ inl8 x r) = u2 := ⟨_, rfl⟩
        rw [hu2] at R1 hl2 hp2 E
        have EP : Is (stN l (k + 1)) (perm u2) := ⟨E.out⟩
        clear hu2 E h135 q16 r7
        generalize IntKind.u64.wrap (IntKind.u64.wrap (x.toNat : Int) * 2 ^ min (IntKind.u64.wrap (8 * (r : Int))).toNat 64) = J1
        generalize IntKind.u64.wrap (8 * (r : Int)) = J2
        generalize IntKind.u64.wrap (x.toNat : Int) = J3
        generalize (X ^^^ inl8 x r) = J4 at R1 K1 ⊢
        go_wp2_with ((with_reducible refine wpList_ld (.tmp 4) rfl rfl _ rfl u2 hl2 R1.out ?_))
        refine (rperm_any u2 hl2 _).mono ?_
        rintro _ W3 ⟨rfl, k3⟩
        have R3 := hid (R1.out.keep k3 (fun h => h))
        have K3 := hid (K1.out.trans k3)
        obtain ⟨u3, hu3⟩ : ∃ u3, perm u2 = u3 := ⟨_, rfl⟩
        rw [hu3] at hp2 EP ⊢
        clear hu3 k3
        go_wp2_with (with_reducible refine wpList_st (.tmp 4) (.tmp 41) rfl rfl _ rfl u3 hp2 rfl u2 hl2 R3.out ?_)
        go_roundw
        case rel => exact ⟨k + 1, by omega, by go_num, by rw [EP.eq]; exact R3.out.row, K3.out.setRow (Nat.le_refl _) _⟩
        case measure => simp [intOf]; omega
      · have hmb : ((m : Int) == 135) = false := by simp; omega
        have E : Hid (stN l (k + 1) = u.set q (X ^^^ inl8 x r)) := hid (by rw [SM.out m MD.out h135, HQ.out, HRr.out, HXX.out, PFk.out, HX.out])
        go_wp2_with fail
        go_roundw
        case rel => exact ⟨k + 1, by omega, by go_num, by rw [E.out]; exact R1.out, K1.out⟩
        case measure => simp [intOf]; omega
    · obtain rfl : k = al := by omega
      have hlt' : ¬ ((k : Int) < (k : Int)) := by omega
      have SL := hid (stN_len l k)
      obtain ⟨u, hu⟩ : ∃ u, stN l k = u := ⟨_, rfl⟩
      have HU : Is (stN l k) u := ⟨hu⟩
      rw [hu] at R SL
      have DD : Hid (dgt l = outK u 32) := hid (by rw [DA.out, HU.eq, outK_all])
      obtain ⟨b2, hb2⟩ : ∃ b, wr.heap.size = b := ⟨_, rfl⟩
      have hbb : w.heap.size < b2 := by rw [← hb2]; exact R.out.lt
      clear hu dv dm hlt hk hal
      go_wp2_with (at_make; refine wpList_plain rfl (fun K hK => wp_make_bytes _ _ _ rfl 32 32 rfl rfl (by decide) (by decide) ?_))
      intro W2 o2 k2
      refine hK _ _ ?_
      clear hK K
      try rw [hb2] at o2
      have O2 := hid o2
      have R2 := hid (R.out.keep k2 (fun h => h))
      have K2 := hid (KK.out.trans k2)
      have OZ := hid (outK_zero u)
      clear R KK o2 k2 hb2 hlt'
      go_wp2_with fail
      go_loopw [8] (fun i wr2 => ∃ k : Nat, k ≤ 32 ∧ i = .int .i64 k ∧ OwnY wr2 (.slice (some ⟨b2, 0, none⟩) 32 32) (outK u k) ∧ RowL wr2 w.heap.size 28 u ∧ Keep (fun _ => False) w wr2) (fun i _ => 32 - (intOf i).toNat)
      case atStart => exact ⟨0, Nat.zero_le _, rfl, by rw [OZ.out]; exact O2.out, R2.out, K2.out⟩
      case round =>
        obtain ⟨k2, hk2, rfl, hO, hR, hK⟩ := hrel
        clear O2 R2 K2 OZ
        by_cases hlt : k2 < 32
        · have hlt2 : (k2 : Int) < 32 := by omega
          have BS := hid (outK_succ u k2 hlt)
          have BV := hid (byt_val (gl u (k2 / 8)) (8 * (k2 % 8)))
          have BD : Hid (byt u k2 = (gl u (k2 / 8) >>> (8 * (k2 % 8))).setWidth 8) := hid rfl
          obtain ⟨q, hq⟩ : ∃ q, k2 / 8 = q := ⟨_, rfl⟩
          obtain ⟨r, hr⟩ : ∃ r, k2 % 8 = r := ⟨_, rfl⟩
          have hqd : (k2 : Int).tdiv 8 = (q : Int) := by rw [Int.tdiv_eq_ediv_of_nonneg (by omega), ← hq]; rfl
          have hrd : (k2 : Int).tmod 8 = (r : Int) := by rw [Int.tmod_eq_emod_of_nonneg (by omega), ← hr]; rfl
          have hqi : (q : Int) < 25 := by omega
          have r8 : r < 8 := by omega
          have hq25 : q < u.length := by rw [SL.out]; omega
          have cq := hR.cell q hq25
          rw [hq, hr] at BV BD
          obtain ⟨_, _, hv, _, _, hcell⟩ := hO.block (by rw [outK_len]; decide)
          simp only [Value.slice.injEq, Option.some.injEq, Addr.mk.injEq, and_true] at hv
          obtain ⟨rfl, -, rfl⟩ := hv
          obtain ⟨kc, kf⟩ := hcell k2 (by rw [outK_len]; exact hlt)
          have SV := hid (OwnY.set hO k2 (byt u k2))
          have HR := hid hR
          have HK := hid hK
          have e2 : IntKind.u64.wrap (8 * (r : Int)) = ((8 * r : Nat) : Int) := by rw [IntKind.wrap_u64]; omega
          have wr8 : IntKind.i64.wrap (8 * (r : Int)) = ((8 * r : Nat) : Int) := by rw [IntWalk.i64_in _ ⟨by omega, by omega⟩]; omega
          obtain ⟨X, hX⟩ : ∃ X, gl u q = X := ⟨_, rfl⟩
          rw [hX] at cq BV BD
          clear hcell hO hR hK hq hr hX hq25
          go_wp2_with fail
          go_roundw
          case rel => exact ⟨k2 + 1, by omega, by go_num, by first | rw [BV.out, ← BD.out, ← BS.out]; exact SV.out, by exact HR.out.other _ _ (by dsimp only; omega), by exact HK.out.setCell (.inr (by dsimp only; omega)) _⟩
          case measure => simp [intOf]; omega
        · obtain rfl : k2 = 32 := by omega
          have CV := bytes_conv hO.reads
          have DV : Hid (bstr (outK u 32) = bstr (dgt l)) := hid (by rw [DD.out])
          obtain ⟨V, hV⟩ : ∃ V, bstr (outK u 32) = V := ⟨_, rfl⟩
          rw [hV] at CV DV
          have HK := hid hK
          clear hV hO hR hK hlt hk2 DD
          go_wp2_with fail
          go_ret
          exact ⟨by rw [DV.out]; rfl, HK.out⟩
end Go.Proofs.Ytpijnpapmdnceaa
