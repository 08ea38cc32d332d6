/- What each operation of the machine does, in the abstract operations' words: literals of slices, make, conversions, the rest. -/
import Derived.Test.YtgkjmdbjncnlpaaDoorEvK
import Derived.Laws.BytesArg
namespace Go.Ev
set_option linter.unusedVariables false
set_option linter.unusedSimpArgs false

section
variable {P : Program} {μ : Mu} {S : Stab} {h : List Blk} {w : World}

theorem ok_bslice (i : Inv μ S h w) {t el : TypeId} {len sz : Nat} {z : D} {zc : List D} {ps : List (Nat × Value)} {qs : List (Nat × Nat × V)} {ds : List D}
    (hu : P.underlying t = some (.slice el)) (hs : szT P el = some sz) (hz : zeroT P el = some z) (hzc : z.cellsOf = some zc) (hsz : zc.length = sz) (hl : len * sz ≤ 16777216)
    (hq : All2 (fun (p : Nat × Value) (q : Nat × Nat × V) => (q.1 = p.1 * sz ∧ q.2.1 = sz) ∧ V.rel μ S h q.2.2 p.2) ps qs)
    (e : fillV (((List.replicate len zc).flatten).map .d) qs = some (ds.map .d)) (hc : ds.all cellD = true) (hn : ds.length = len * sz) :
    ∃ y S' w', (Instr.buildSlice t len ps.toArray).run P w = .ok y w' ∧ Tr μ S h w μ S' h w' ∧ D.rel S' (.lst sz len ds true) y := by
  obtain ⟨zv, vs, ⟨v, h1, h2⟩, h3, h4, h5, h6⟩ := zeros_eq (S := S) hz hzc len w
  rw [hsz] at h3 h4
  have hq' : All2 (fun (p : Nat × Value) (q : Nat × Nat × V) => (fun i => some (i * sz, sz)) p.1 = some (q.1, q.2.1) ∧ V.rel μ S h q.2.2 p.2) ps qs := by
    clear e h1
    induction hq with
    | nil => exact .nil
    | cons a _ ih => exact .cons ⟨by rw [a.1.1, a.1.2], a.2⟩ ih
  obtain ⟨us, g1, g2⟩ := ok_fill (fun i => some (i * sz, sz)) ps qs _ vs _ hq' (V.rels_d.2 h5) e
  have g2 := V.rels_d.1 g2
  obtain ⟨S', t2, hat⟩ := tr_lit i ds us [] el (0, 0) g2 (cellD_all hc g2)
  simp only [List.append_nil] at t2
  refine ⟨.slice (some ⟨w.heap.size, 0, none⟩) len len, S', _, ?_, t2, _, len, rfl, Nat.le_refl _, fun _ => rfl, hn, .inr ⟨w.heap.size, 0, none, rfl, hat, fun _ => rfl⟩⟩
  have hbig : ¬ (16777216 < len * sz) := by omega
  by_cases h0 : len * sz = 0
  · have hvs : vs = [] := by
      have := D.rels_length h5
      have : vs.length = 0 := by rw [← this]; simp [hsz]; omega
      exact List.length_eq_zero_iff.1 this
    subst hvs
    have g1' : Instr.fill (fun i => some (i * sz, sz)) #[] ps = some us.toArray := g1
    have h0' : len = 0 ∨ sz = 0 := Nat.mul_eq_zero.1 h0
    simp [Instr.buildSlice, run_underlying hu, run_sizeOf hs, h0, hbig, newRow]
    simp [Array.range_zero', g1']
  · have h0' : ¬ (len = 0 ∨ sz = 0) := fun q => h0 (Nat.mul_eq_zero.2 q)
    have h4' : Array.map (fun x => zv[x % zv.length]?.getD default) (Array.range (len * sz)) = vs.toArray := by simpa using h4
    simp [Instr.buildSlice, run_underlying hu, run_sizeOf hs, h0', hbig, h1, h2, newRow]
    rw [if_neg h0, h4', g1]
    simp

theorem ok_mksl (i : Inv μ S h w) {t el : TypeId} {inf : TypeInfo} {z : D} {zc : List D} {l c : Int} {k k' : IntKind}
    (hu : P.underlying t = some (.slice el)) (hi : P.info? el = some inf) (hz : zeroT P el = some z) (hzc : z.cellsOf = some zc) (hsz : zc.length = inf.size)
    (h0 : 0 ≤ l) (hlc : l ≤ c) (hb : c * inf.bytes ≤ 281474976710656) (hm : c ≤ 9223372036854775807) :
    ∃ y μ' w', (Instr.makeSlice t (.int k l) (.int k' c)).run P w = .ok y w' ∧ Tr μ S h w μ' S (h ++ [.cells ((List.replicate c.toNat (zc.map V.d)).flatten)]) w' ∧
      V.rel μ' S (h ++ [.cells ((List.replicate c.toNat (zc.map V.d)).flatten)]) (.sl h.length 0 inf.size l.toNat c.toNat) y := by
  obtain ⟨zv, vs, ⟨v, h1, h2⟩, h3, h4, h5, h6⟩ := zeros_eq (S := S) hz hzc c.toNat w
  rw [hsz] at h3 h4
  have hmap : ((List.replicate c.toNat (zc.map V.d)).flatten) = ((List.replicate c.toNat zc).flatten).map V.d := by
    rw [List.map_flatten, List.map_replicate]
  have t2 := tr_alloc i _ vs el (V.rels_d.2 h5) h6
  rw [hmap]
  have hz4 : inf.zero = some v := by
    obtain ⟨v', q1, _, q3⟩ := run_zeroValue hz S w
    rw [h1] at q1; injection q1 with q1; rw [q1]; exact q3 inf hi
  have hrun := run_make (P := P) w t el inf v hu hi hz4 k k' l c h0 hlc (by rw [Int.mul_comm]; exact hb) hm
  have hmade : madeCells v.cells (c.toNat * inf.size) = vs.toArray := by rw [h2]; exact h4
  rw [hmade] at hrun
  exact ⟨_, _, _, hrun, t2, by simp, fun x e => by simp at e; subst e; rfl, by omega, by rw [Mu.upd_same]⟩

theorem bytesOf_spec : ∀ {cs : List D} {l : List UInt8}, bytesOf cs = some l → ∃ xs : List Int, cs = xs.map (.int .u8 ·) ∧ l = xs.map fun n => UInt8.ofNat n.toNat
  | [], l, h => by simp only [bytesOf, Option.some.injEq] at h; subst h; exact ⟨[], rfl, rfl⟩
  | x :: cs, l, h => by
    unfold bytesOf at h
    split at h
    · rename_i e; cases e
    · rename_i n r e
      injection e with e1 e2; subst e1; subst e2
      split at h
      · simp only [Option.map_eq_some_iff] at h
        obtain ⟨l', h1, rfl⟩ := h
        obtain ⟨xs, rfl, rfl⟩ := bytesOf_spec h1
        exact ⟨n :: xs, rfl, rfl⟩
      · cases h
    · cases h

theorem ok_cvbs (i : Inv μ S h w) {src dst el : TypeId} {v : V} {x : Value} {m : Nat} {cs : List D} {l : List UInt8} (hs : P.underlying src = some (.slice el)) (hd : P.underlying dst = some .string) (he : P.underlying el = some (.int .u8))
    (r : V.rel μ S h v x) (hl : v.list? = some (m, cs)) (hb : bytesOf cs = some l) (hm : l.length = m) (h0 : 0 < m) : (convert src dst x).run P w = .ok (.string ⟨l.toArray⟩) w := by
  obtain ⟨xs, rfl, rfl⟩ := bytesOf_spec hb
  simp only [List.length_map] at hm
  have fin : ∀ (b o cap : Nat), D.relAt S (xs.map (.int .u8 ·)) b o → (convert src dst (.slice (some ⟨b, o, none⟩) m cap)).run P w = .ok (.string ⟨(xs.map fun n => UInt8.ofNat n.toNat).toArray⟩) w := by
    intro b o cap hat
    rw [run_convert_bytes_arg w src el hs he b o m cap xs hm (fun k hk => ?_) dst hd]
    · congr 1
    · have hk' : k < xs.length := by omega
      obtain ⟨u, h1, h2⟩ := D.relAt_get k (.int .u8 xs[k]) hat (by simp [List.getElem?_eq_getElem hk'])
      have : u = .int .u8 xs[k] := h2
      subst this
      rw [(i.st _ _ _ h1).1]
      simp [List.getElem?_eq_getElem hk']
  unfold V.list? at hl
  split at hl
  · injection hl with hl; injection hl with e1 e2; subst e1; subst e2
    obtain ⟨base, cap, rfl, q1, _, _, q4⟩ := r
    rcases q4 with ⟨_, q⟩ | ⟨b, o, sp, rfl, hat, hsp⟩
    · omega
    · obtain rfl := hsp (by omega)
      exact fin b o cap hat
  · injection hl with hl; injection hl with e1 e2; subst e1; subst e2
    obtain ⟨_, base, cap, rfl, _, _, q4⟩ := r
    rcases q4 with ⟨q, _⟩ | ⟨_, b, rfl, hat, _⟩
    · omega
    · exact fin b 0 cap hat
  · injection hl with hl; injection hl with e1 e2; subst e1; omega
  · cases hl

theorem rel_bytes (l : List UInt8) : D.rels S (bytesD l) (l.map fun b => Value.int .u8 b.toNat) := by
  induction l with
  | nil => rfl
  | cons b l ih => exact ⟨_, _, rfl, rfl, ih⟩

theorem ok_cvsb (i : Inv μ S h w) {src dst el : TypeId} {l : List UInt8} (hs : P.underlying src = some .string) (hd : P.underlying dst = some (.slice el)) (he : P.underlying el = some (.int .u8)) :
    ∃ y S' w', (convert src dst (.string ⟨l.toArray⟩)).run P w = .ok y w' ∧ Tr μ S h w μ S' h w' ∧ D.rel S' (.lst 1 l.length (bytesD l) false) y := by
  have hrun := run_bytes_of_string (P := P) w src dst el ⟨l.toArray⟩ hs hd he
  have hsz : (ByteArray.mk l.toArray).size = l.length := by simp [ByteArray.size]
  rw [hsz] at hrun
  have hcap := grownCap_ge w l.length 0 el
  obtain ⟨S', t2, hat⟩ := tr_lit (tr_drew i).inv (bytesD l) (l.map fun b => Value.int .u8 b.toNat) (List.replicate (grownCap w l.length 0 el - l.length) (.int .u8 0)) el
    ((bytesRow ⟨l.toArray⟩ (grownCap w l.length 0 el)).size, (bytesRow ⟨l.toArray⟩ (grownCap w l.length 0 el)).size + 1) (rel_bytes l) (by
      intro u hu
      obtain ⟨b, _, rfl⟩ := List.mem_map.1 hu
      trivial)
  have hrow : bytesRow ⟨l.toArray⟩ (grownCap w l.length 0 el) = ((l.map fun b : UInt8 => Value.int .u8 b.toNat) ++ List.replicate (grownCap w l.length 0 el - l.length) (Value.int .u8 0)).toArray := by
    unfold bytesRow
    rw [hsz]
    apply Array.ext'
    simp
  rw [hrow] at hrun t2
  exact ⟨_, S', _, hrun, (tr_drew i).trans t2, _, _, rfl, hcap, by simp, by simp [bytesD], .inr ⟨w.heap.size, 0, none, rfl, hat, fun _ => rfl⟩⟩

theorem ok_min2 {k : IntKind} (a b : Int) : (Builtin.min2 (.int k a) (.int k b)).run P w = .ok (.int k (if b < a then b else a)) w := by simp [Builtin.min2]

end
end Go.Ev
