/- Symbolic values, chunks of memory, states and verification conditions. -/
import Derived.Test.YtmjonggabppgaaaEngB
set_option linter.unusedSimpArgs false
set_option linter.unusedVariables false
namespace Go.Eng
open Go.RowKit (Below)

/-- What fits in one cell. -/
inductive SC where
  | int (k : IntKind) (e : SX) | bool (e : SX)
  | ptr (b : SX) (o : Nat)
  | ep (b o i : SX) (s j : Nat)
  | slice (b o k z l c : SX) (s : Nat)
  | str (e : SX) | map (b : SX)
  | fn (f : Nat) | cap (g x : SC)
  | nilfn | nilif | ifc (t : Nat) (v : SC)
  deriving Inhabited

inductive SV where
  | junk | one (c : SC) | agg (cs : List SC) | tup (vs : List (Bool × List SC))
  deriving Inhabited

inductive Fd where
  | int (k : IntKind) | bool | ptr | slice (s : Nat) | map
  deriving DecidableEq, Repr, Inhabited
def Fd.width : Fd → Nat | .slice _ => 3 | _ => 1
inductive En where
  | ints (k : IntKind) | bytes | rows (fs : List Fd)
  deriving DecidableEq, Repr, Inhabited
def En.stride : En → Nat | .rows fs => fs.length | _ => 1
/-- The number by which this content's functions go: 0 integers, 1 bytes, 2 rows. -/
def En.t : En → Nat | .ints _ => 0 | .bytes => 1 | .rows _ => 2

inductive Ch where
  | cel (b : SX) (o : Nat) (cs : List SC)
  | arr (e : En) (b x cap : SX)
  | ro (e : En) (b o x : SX)
  | rd (i : Nat) (e : En) (b o x cap : SX)
  | map (kk : IntKind) (v : Fd) (b m : SX)
  | prd (p : Nat) (k x : SX)
  deriving Inhabited

inductive VC where
  | tt | ff (why : Nat)
  | and (a b : VC)
  | imp (e : SX) (a : VC)
  | need (e : SX) (a : VC)
  | all (n : Nat) (s : Srt) (a : VC)
  deriving Repr, Inhabited

structure St where
  fr : List SV
  hp : List Ch
  n : Nat
  asm : List SX
  deriving Inhabited

section
variable {G : Type} (S : Sig G) (ρ : Env G)

def SX.I (e : SX) : Int := (e.den S ρ).toInt
def SX.N (e : SX) : Nat := (e.den S ρ).toInt.toNat
def SX.P (e : SX) : Prop := (e.den S ρ).toProp

def SC.den : SC → Value
  | .int k e => .int k (e.den S ρ).toInt
  | .bool e => .bool (e.den S ρ).toBool
  | .ptr b o => if (b.den S ρ).toInt < 0 then .pointer none else .pointer (some ⟨(b.den S ρ).toInt.toNat, o, none⟩)
  | .ep b o i s j => .pointer (some ⟨(b.den S ρ).toInt.toNat, (o.den S ρ).toInt.toNat + (i.den S ρ).toInt.toNat * s + j, none⟩)
  | .slice b o k z l c s => .slice (if (b.den S ρ).toInt < 0 then none else
      some ⟨(b.den S ρ).toInt.toNat, (o.den S ρ).toInt.toNat + (if (c.den S ρ).toInt = 0 then (z.den S ρ).toInt else (k.den S ρ).toInt).toNat * s, none⟩)
      (l.den S ρ).toInt.toNat (c.den S ρ).toInt.toNat
  | .str e => .string ⟨(e.den S ρ).toBytes.toArray⟩
  | .map b => .map (if (b.den S ρ).toInt < 0 then none else some (b.den S ρ).toInt.toNat)
  | .fn f => .func (.func f) #[] #[]
  | .cap g x => match SC.den g with | .func f a c => .func f a (c.push (SC.den x)) | v => v
  | .nilfn => .nilFunc | .nilif => .nilIface
  | .ifc t v => .iface t (SC.den v)

def tupV (p : Bool × List SC) : Value :=
  match p with
  | (false, [c]) => c.den S ρ
  | (_, cs) => .agg (cs.map (SC.den S ρ)).toArray
def SV.den : SV → Value
  | .junk => undef
  | .one c => c.den S ρ
  | .agg cs => .agg (cs.map (SC.den S ρ)).toArray
  | .tup vs => .tuple (vs.map (tupV S ρ)).toArray
def SV.isJunk : SV → Bool | .junk => true | _ => false
def SV.R (sv : SV) (v : Value) : Prop := sv.isJunk = true ∨ v = sv.den S ρ

/-- One field out of the integers of a row. -/
def Fd.val : Fd → List Int → Value
  | .int k, r => .int k (r.getD 0 0)
  | .bool, r => .bool (r.getD 0 0 != 0)
  | .ptr, r => if r.getD 0 0 < 0 then .pointer none else .pointer (some ⟨(r.getD 0 0).toNat, 0, none⟩)
  | .slice _, r => .slice (if r.getD 0 0 < 0 then none else some ⟨(r.getD 0 0).toNat, 0, none⟩) (r.getD 1 0).toNat (r.getD 2 0).toNat
  | .map, r => .map (if r.getD 0 0 < 0 then none else some (r.getD 0 0).toNat)
def rowVals : List Fd → List Int → List Value
  | [], _ => []
  | f :: fs, r => f.val r :: rowVals fs (r.drop f.width)
theorem rowVals_length : ∀ (fs : List Fd) (r : List Int), (rowVals fs r).length = fs.length
  | [], _ => rfl
  | f :: fs, r => by simp [rowVals, rowVals_length fs]

def En.vals : En → U G → List Value
  | .ints k, u => u.toInts.map (Value.int k)
  | .bytes, u => u.toBytes.map (fun b => Value.int .u8 (b.toNat : Nat))
  | .rows fs, u => u.toRows.flatMap (rowVals fs)
def En.len : En → U G → Nat
  | .ints _, u => u.toInts.length
  | .bytes, u => u.toBytes.length
  | .rows _, u => u.toRows.length

def mapOk (kk : IntKind) (v : Fd) (es : Array MapEntry) (clock : Nat) (m : List (Int × Int)) : Prop :=
  es.toList.map (fun e => (e.key, e.val)) = m.map (fun p => (Value.int kk p.1, v.val [p.2])) ∧ (m.map (·.1)).Nodup ∧
    (es.toList.map (·.born)).Nodup ∧ (∀ e ∈ es.toList, e.born < clock)

def arrDen (S : Sig G) (e : En) (b x cap : U G) : HProp := fun h => ∃ spare : List Value, (e.vals x).length + spare.length = cap.toInt.toNat * e.stride ∧ 0 ≤ cap.toInt ∧
      (0 ≤ b.toInt ∨ cap.toInt = 0) ∧ row b.toInt.toNat 0 (e.vals x ++ spare) true h
def roDen (S : Sig G) (w0 : World) (e : En) (b o x : U G) : HProp := HProp.pure ((0 ≤ b.toInt ∨ e.vals x = []) ∧ (∀ i v, (e.vals x)[i]? = some v → b.toInt.toNat < w0.heap.size ∧
      w0.cell? ⟨b.toInt.toNat, o.toInt.toNat + i, none⟩ = some v))

def Ch.den (w0 : World) : Ch → HProp
  | .cel b o cs => fun h => (0 ≤ (b.den S ρ).toInt ∨ cs = []) ∧ row (b.den S ρ).toInt.toNat o (cs.map (SC.den S ρ)) true h
  | .arr e b x cap => arrDen S e (b.den S ρ) (x.den S ρ) (cap.den S ρ)
  | .ro e b o x => roDen S w0 e (b.den S ρ) (o.den S ρ) (x.den S ρ)
  | .rd i e b o x cap => if S.ch i then roDen S w0 e (b.den S ρ) (o.den S ρ) (x.den S ρ) else fun h => (o.den S ρ).toInt = 0 ∧ arrDen S e (b.den S ρ) (x.den S ρ) (cap.den S ρ) h
  | .map kk v b m => fun h => 0 ≤ (b.den S ρ).toInt ∧ ∃ es clock, mapOk kk v es clock (m.den S ρ).toMap ∧ objAt (b.den S ρ).toInt.toNat (.map es clock) h
  | .prd p k x => S.prd p w0 (k.den S ρ) (x.den S ρ)

def hpDen (w0 : World) (l : List Ch) : HProp := big (l.map (Ch.den S ρ w0))

def FrR : List SV → List Value → Prop
  | [], [] => True
  | s :: l, v :: m => s.R S ρ v ∧ FrR l m
  | _, _ => False

structure Den (w0 : World) (F : HProp) (st : St) (a : Act) (w : World) : Prop where
  fr : FrR S ρ st.fr a.tmps.toList
  df : a.defers = []
  hp : Sat w0 (star (hpDen S ρ w0 st.hp) F) w
  asm : ∀ e ∈ st.asm, (e.den S ρ).toProp

end

section
variable {G : Type} (S : Sig G)
def Env.upd (ρ : Env G) (n : Nat) (u : U G) : Env G := fun i => if i = n then u else ρ i
def VC.den : VC → Env G → Prop
  | .tt, _ => True
  | .ff _, _ => False
  | .and a b, ρ => a.den ρ ∧ b.den ρ
  | .imp e a, ρ => (e.den S ρ).toProp → a.den ρ
  | .need e a, ρ => (e.den S ρ).toProp ∧ a.den ρ
  | .all n .int a, ρ => ∀ x : Int, a.den (ρ.upd n (.int x))
  | .all n .bool a, ρ => ∀ x : Bool, a.den (ρ.upd n (.bool x))
  | .all n .ints a, ρ => ∀ x : List Int, a.den (ρ.upd n (.ints x))
  | .all n .bytes a, ρ => ∀ x : List UInt8, a.den (ρ.upd n (.bytes x))
  | .all n .rows a, ρ => ∀ x : List (List Int), a.den (ρ.upd n (.rows x))
  | .all n .amap a, ρ => ∀ x : List (Int × Int), a.den (ρ.upd n (.amap x))
  | .all n .g a, ρ => ∀ x : G, a.den (ρ.upd n (.g x))
end

/-! ### Equality and scope of values and chunks -/
def SC.bq : SC → SC → Bool
  | .int k a, .int k' b => bif Nat.beq (kn k) (kn k') then SX.bq a b else false
  | .bool a, .bool b => SX.bq a b
  | .ptr b o, .ptr b' o' => bif Nat.beq o o' then SX.bq b b' else false
  | .ep b o i s j, .ep b' o' i' s' j' => bif Nat.beq s s' then (bif Nat.beq j j' then (bif SX.bq b b' then (bif SX.bq o o' then SX.bq i i' else false) else false) else false) else false
  | .slice b o k z l c s, .slice b' o' k' z' l' c' s' => bif Nat.beq s s' then (bif SX.bq b b' then (bif SX.bq o o' then (bif SX.bq k k' then (bif SX.bq z z' then (bif SX.bq l l' then SX.bq c c' else false) else false) else false) else false) else false) else false
  | .str a, .str b => SX.bq a b
  | .map a, .map b => SX.bq a b
  | .fn f, .fn g => Nat.beq f g
  | .cap g x, .cap g' x' => bif SC.bq g g' then SC.bq x x' else false
  | .nilfn, .nilfn => true
  | .nilif, .nilif => true
  | .ifc t v, .ifc t' v' => bif Nat.beq t t' then SC.bq v v' else false
  | _, _ => false
theorem kn_inj {a b : IntKind} (h : kn a = kn b) : a = b := by rw [← kc_kn a, ← kc_kn b, h]
theorem SC.bq_eq : ∀ {a b : SC}, SC.bq a b = true → a = b := by
  intro a
  induction a with
  | int k e => intro b h; cases b <;> simp [SC.bq, Bool.cond_eq_ite] at h; rw [kn_inj h.1, SX.bq_eq h.2]
  | bool e => intro b h; cases b <;> simp [SC.bq] at h; rw [SX.bq_eq h]
  | ptr b o => intro c h; cases c <;> simp [SC.bq, Bool.cond_eq_ite] at h; rw [h.1, SX.bq_eq h.2]
  | ep b o i s j => intro c h; cases c <;> simp [SC.bq, Bool.cond_eq_ite] at h; obtain ⟨h1, h2, h3, h4, h5⟩ := h; rw [h1, h2, SX.bq_eq h3, SX.bq_eq h4, SX.bq_eq h5]
  | slice b o k z l c s => intro d h; cases d <;> simp [SC.bq, Bool.cond_eq_ite] at h; obtain ⟨h1, h2, h3, h4, h5, h6, h7⟩ := h; rw [h1, SX.bq_eq h2, SX.bq_eq h3, SX.bq_eq h4, SX.bq_eq h5, SX.bq_eq h6, SX.bq_eq h7]
  | str e => intro b h; cases b <;> simp [SC.bq] at h; rw [SX.bq_eq h]
  | map e => intro b h; cases b <;> simp [SC.bq] at h; rw [SX.bq_eq h]
  | fn f => intro b h; cases b <;> simp [SC.bq] at h; rw [h]
  | cap g x ih ih' => intro b h; cases b <;> simp [SC.bq, Bool.cond_eq_ite] at h; rw [ih h.1, ih' h.2]
  | nilfn => intro b h; cases b <;> simp [SC.bq] at h; rfl
  | nilif => intro b h; cases b <;> simp [SC.bq] at h; rfl
  | ifc t v ih => intro b h; cases b <;> simp [SC.bq, Bool.cond_eq_ite] at h; rw [h.1, ih h.2]
def SCs.bq : List SC → List SC → Bool
  | [], [] => true
  | a :: l, b :: m => bif SC.bq a b then SCs.bq l m else false
  | _, _ => false
theorem SCs.bq_eq : ∀ {a b : List SC}, SCs.bq a b = true → a = b
  | [], [], _ => rfl
  | a :: l, b :: m, h => by simp [SCs.bq, Bool.cond_eq_ite] at h; rw [SC.bq_eq h.1, SCs.bq_eq h.2]
  | [], _ :: _, h => by cases h
  | _ :: _, [], h => by cases h
def SV.bq : SV → SV → Bool
  | .one a, .one b => SC.bq a b
  | .agg a, .agg b => SCs.bq a b
  | _, _ => false
theorem SV.bq_eq {a b : SV} (h : SV.bq a b = true) : a = b := by
  cases a <;> cases b <;> simp [SV.bq] at h
  · rw [SC.bq_eq h]
  · rw [SCs.bq_eq h]

def SC.lt (n : Nat) : SC → Bool
  | .int _ e | .bool e | .str e | .map e => e.lt n
  | .ptr b _ => b.lt n
  | .ep b o i _ _ => bif b.lt n then (bif o.lt n then i.lt n else false) else false
  | .slice b o k z l c _ => bif b.lt n then (bif o.lt n then (bif k.lt n then (bif z.lt n then (bif l.lt n then c.lt n else false) else false) else false) else false) else false
  | .fn _ | .nilfn | .nilif => true
  | .cap g x => bif g.lt n then x.lt n else false
  | .ifc _ v => v.lt n
def SCs.lt (n : Nat) : List SC → Bool
  | [] => true
  | c :: l => bif c.lt n then SCs.lt n l else false
def SV.lt (n : Nat) : SV → Bool
  | .junk => true
  | .one c => c.lt n
  | .agg cs => SCs.lt n cs
  | .tup vs => vs.all fun p => SCs.lt n p.2
def Ch.lt (n : Nat) : Ch → Bool
  | .cel b _ cs => bif b.lt n then SCs.lt n cs else false
  | .arr _ b x c => bif b.lt n then (bif x.lt n then c.lt n else false) else false
  | .ro _ b o x => bif b.lt n then (bif o.lt n then x.lt n else false) else false
  | .rd _ _ b o x c => bif b.lt n then (bif o.lt n then (bif x.lt n then c.lt n else false) else false) else false
  | .map _ _ b m => bif b.lt n then m.lt n else false
  | .prd _ k x => bif k.lt n then x.lt n else false
def St.ok (st : St) : Bool :=
  bif st.fr.all (SV.lt st.n) then (bif st.hp.all (Ch.lt st.n) then st.asm.all (SX.lt st.n) else false) else false

section
variable {G : Type} (S : Sig G)
theorem SC.den_ext {n : Nat} {ρ ρ' : Env G} (h : Ext n ρ ρ') : ∀ {e : SC}, e.lt n = true → e.den S ρ' = e.den S ρ := by
  intro e
  induction e with
  | int k e => intro hl; simp only [SC.den]; rw [SX.den_ext S h hl]
  | bool e => intro hl; simp only [SC.den]; rw [SX.den_ext S h hl]
  | str e => intro hl; simp only [SC.den]; rw [SX.den_ext S h hl]
  | map e => intro hl; simp only [SC.den]; rw [SX.den_ext S h hl]
  | ptr b o => intro hl; simp only [SC.den]; rw [SX.den_ext S h hl]
  | ep b o i s j => intro hl; simp [SC.lt, Bool.cond_eq_ite] at hl; simp only [SC.den]; rw [SX.den_ext S h hl.1, SX.den_ext S h hl.2.1, SX.den_ext S h hl.2.2]
  | slice b o k z l c s => intro hl; simp [SC.lt, Bool.cond_eq_ite] at hl; obtain ⟨h1, h2, h3, h4, h5, h6⟩ := hl; simp only [SC.den]; rw [SX.den_ext S h h1, SX.den_ext S h h2, SX.den_ext S h h3, SX.den_ext S h h4, SX.den_ext S h h5, SX.den_ext S h h6]
  | fn f => intro _; rfl
  | nilfn => intro _; rfl
  | nilif => intro _; rfl
  | cap g x ih ih' => intro hl; simp [SC.lt, Bool.cond_eq_ite] at hl; simp only [SC.den]; rw [ih hl.1, ih' hl.2]
  | ifc t v ih => intro hl; simp only [SC.den]; rw [ih hl]
theorem SCs.den_ext {n : Nat} {ρ ρ' : Env G} (h : Ext n ρ ρ') : ∀ {l : List SC}, SCs.lt n l = true → l.map (SC.den S ρ') = l.map (SC.den S ρ)
  | [], _ => rfl
  | c :: l, hl => by simp [SCs.lt, Bool.cond_eq_ite] at hl; simp [SC.den_ext S h hl.1, SCs.den_ext h hl.2]
theorem SV.den_ext {n : Nat} {ρ ρ' : Env G} (h : Ext n ρ ρ') {e : SV} (hl : e.lt n = true) : e.den S ρ' = e.den S ρ := by
  cases e with
  | junk => rfl
  | one c => exact SC.den_ext S h hl
  | agg cs => simp only [SV.den]; rw [SCs.den_ext S h hl]
  | tup vs =>
    simp only [SV.den]
    congr 2
    apply List.map_congr_left
    intro p hp
    have hq : SCs.lt n p.2 = true := by unfold SV.lt at hl; exact List.all_eq_true.1 hl p hp
    obtain ⟨b, cs⟩ := p
    simp only at hq
    unfold tupV
    split
    · rename_i c heq; cases heq; simp [SCs.lt, Bool.cond_eq_ite] at hq; exact SC.den_ext S h hq
    · rename_i b' cs' _ heq; cases heq; rw [SCs.den_ext S h hq]
theorem Ch.den_ext {n : Nat} {ρ ρ' : Env G} (h : Ext n ρ ρ') (w0 : World) {e : Ch} (hl : e.lt n = true) : e.den S ρ' w0 = e.den S ρ w0 := by
  cases e with
  | cel b o cs => simp [Ch.lt, Bool.cond_eq_ite] at hl; simp only [Ch.den]; rw [SX.den_ext S h hl.1, SCs.den_ext S h hl.2]
  | arr e b x c => simp [Ch.lt, Bool.cond_eq_ite] at hl; simp only [Ch.den]; rw [SX.den_ext S h hl.1, SX.den_ext S h hl.2.1, SX.den_ext S h hl.2.2]
  | ro e b o x => simp [Ch.lt, Bool.cond_eq_ite] at hl; simp only [Ch.den]; rw [SX.den_ext S h hl.1, SX.den_ext S h hl.2.1, SX.den_ext S h hl.2.2]
  | rd i e b o x c => simp [Ch.lt, Bool.cond_eq_ite] at hl; simp only [Ch.den]; rw [SX.den_ext S h hl.1, SX.den_ext S h hl.2.1, SX.den_ext S h hl.2.2.1, SX.den_ext S h hl.2.2.2]
  | map kk v b m => simp [Ch.lt, Bool.cond_eq_ite] at hl; simp only [Ch.den]; rw [SX.den_ext S h hl.1, SX.den_ext S h hl.2]
  | prd p k x => simp [Ch.lt, Bool.cond_eq_ite] at hl; simp only [Ch.den]; rw [SX.den_ext S h hl.1, SX.den_ext S h hl.2]
theorem hpDen_ext {n : Nat} {ρ ρ' : Env G} (h : Ext n ρ ρ') (w0 : World) {l : List Ch} (hl : l.all (Ch.lt n) = true) : hpDen S ρ' w0 l = hpDen S ρ w0 l := by
  unfold hpDen
  congr 1
  apply List.map_congr_left
  intro c hc
  exact Ch.den_ext S h w0 (List.all_eq_true.1 hl c hc)
theorem FrR_ext {n : Nat} {ρ ρ' : Env G} (h : Ext n ρ ρ') : ∀ {l : List SV} {m : List Value}, l.all (SV.lt n) = true → FrR S ρ l m → FrR S ρ' l m
  | [], [], _, _ => trivial
  | s :: l, v :: m, hl, hf => by
    simp at hl
    refine ⟨?_, FrR_ext h (by simpa using hl.2) hf.2⟩
    rcases hf.1 with hj | he
    · exact .inl hj
    · exact .inr (by rw [SV.den_ext S h hl.1]; exact he)
  | [], _ :: _, _, hf => hf.elim
  | _ :: _, [], _, hf => hf.elim
theorem Den.ext {ρ ρ' : Env G} {w0 : World} {F : HProp} {st : St} {a : Act} {w : World} (hd : Den S ρ w0 F st a w) (hok : st.ok = true) (h : Ext st.n ρ ρ') : Den S ρ' w0 F st a w := by
  simp [St.ok, Bool.cond_eq_ite] at hok
  refine ⟨FrR_ext S h (by simpa using hok.1) hd.fr, hd.df, ?_, fun e he => ?_⟩
  · rw [hpDen_ext S h w0 (by simpa using hok.2.1)]; exact hd.hp
  · rw [SX.den_ext S h (hok.2.2 e he)]; exact hd.asm e he
theorem Ext.upd {ρ : Env G} (n : Nat) (u : U G) : Ext n ρ (ρ.upd n u) := fun i hi => by unfold Env.upd; rw [if_neg (by omega)]
end

end Go.Eng
