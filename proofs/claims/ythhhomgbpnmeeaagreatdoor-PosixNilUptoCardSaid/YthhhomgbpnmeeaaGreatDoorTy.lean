/- The types of the program as structures and closed facts of its tables, printed by a program. No conditions. -/
import Derived.Test.YthhhomgbpnmeeaaGreatDoorSy23
import Derived.Test.YthhhomgbpnmeeaaGreatDoorProg
set_option linter.all false
namespace Go.Proofs.YthhhomgbpnmeeaaGreatDoor
open Go Go.Sy
set_option maxRecDepth 100000
set_option maxHeartbeats 2000000
structure T45 where
  Kind : Int
  Uid : Int
  Gid : Int
  Path_ : ByteArray
  Other : ByteArray
  Data : (List UInt8)
  Off : Int
  N : Int
  Mode : Int
  Time : Nat
instance : Inhabited T45 := ⟨(⟨(0 : Int), (0 : Int), (0 : Int), ByteArray.empty, ByteArray.empty, ([] : (List UInt8)), (0 : Int), (0 : Int), (0 : Int), (0 : Nat)⟩ : T45)⟩
def k45p : Kd (Int × Int × Int × ByteArray × ByteArray × (List UInt8) × Int × Int × Int × Nat) := (kProd (kInt .i64) (kProd (kInt .i64) (kProd (kInt .i64) (kProd kStr (kProd kStr (kProd (kSl kByte) (kProd (kInt .i64) (kProd (kInt .i64) (kProd (kInt .i64) kF64)))))))))
def k45 : Kd T45 := kIso k45p (fun x : T45 => (x.Kind, x.Uid, x.Gid, x.Path_, x.Other, x.Data, x.Off, x.N, x.Mode, x.Time))
def F45 : Fld k45 k45p := Fld.iso k45p (fun x : T45 => (x.Kind, x.Uid, x.Gid, x.Path_, x.Other, x.Data, x.Off, x.N, x.Mode, x.Time)) (fun p => (⟨p.1, p.2.1, p.2.2.1, p.2.2.2.1, p.2.2.2.2.1, p.2.2.2.2.2.1, p.2.2.2.2.2.2.1, p.2.2.2.2.2.2.2.1, p.2.2.2.2.2.2.2.2.1, p.2.2.2.2.2.2.2.2.2⟩ : T45)) (fun _ => rfl)
def F45_0 : Fld k45 (kInt .i64) := F45.comp (Fld.fst _ _)
def S45_1 := F45.comp (Fld.snd _ _)
def F45_1 : Fld k45 (kInt .i64) := S45_1.comp (Fld.fst _ _)
def S45_2 := S45_1.comp (Fld.snd _ _)
def F45_2 : Fld k45 (kInt .i64) := S45_2.comp (Fld.fst _ _)
def S45_3 := S45_2.comp (Fld.snd _ _)
def F45_3 : Fld k45 kStr := S45_3.comp (Fld.fst _ _)
def S45_4 := S45_3.comp (Fld.snd _ _)
def F45_4 : Fld k45 kStr := S45_4.comp (Fld.fst _ _)
def S45_5 := S45_4.comp (Fld.snd _ _)
def F45_5 : Fld k45 (kSl kByte) := S45_5.comp (Fld.fst _ _)
def S45_6 := S45_5.comp (Fld.snd _ _)
def F45_6 : Fld k45 (kInt .i64) := S45_6.comp (Fld.fst _ _)
def S45_7 := S45_6.comp (Fld.snd _ _)
def F45_7 : Fld k45 (kInt .i64) := S45_7.comp (Fld.fst _ _)
def S45_8 := S45_7.comp (Fld.snd _ _)
def F45_8 : Fld k45 (kInt .i64) := S45_8.comp (Fld.fst _ _)
def F45_9 : Fld k45 kF64 := S45_8.comp (Fld.snd _ _)
abbrev a22 : Kd (List UInt8) := kArr 16 (by decide) kByte
structure T56 where
  Uid : Int
  Blocks : Int
  Inodes : Int
  MaxBlocks : Int
  MaxInodes : Int
instance : Inhabited T56 := ⟨(⟨(0 : Int), (0 : Int), (0 : Int), (0 : Int), (0 : Int)⟩ : T56)⟩
def k56p : Kd (Int × Int × Int × Int × Int) := (kProd (kInt .i64) (kProd (kInt .i64) (kProd (kInt .i64) (kProd (kInt .i64) (kInt .i64)))))
def k56 : Kd T56 := kIso k56p (fun x : T56 => (x.Uid, x.Blocks, x.Inodes, x.MaxBlocks, x.MaxInodes))
def F56 : Fld k56 k56p := Fld.iso k56p (fun x : T56 => (x.Uid, x.Blocks, x.Inodes, x.MaxBlocks, x.MaxInodes)) (fun p => (⟨p.1, p.2.1, p.2.2.1, p.2.2.2.1, p.2.2.2.2⟩ : T56)) (fun _ => rfl)
def F56_0 : Fld k56 (kInt .i64) := F56.comp (Fld.fst _ _)
def S56_1 := F56.comp (Fld.snd _ _)
def F56_1 : Fld k56 (kInt .i64) := S56_1.comp (Fld.fst _ _)
def S56_2 := S56_1.comp (Fld.snd _ _)
def F56_2 : Fld k56 (kInt .i64) := S56_2.comp (Fld.fst _ _)
def S56_3 := S56_2.comp (Fld.snd _ _)
def F56_3 : Fld k56 (kInt .i64) := S56_3.comp (Fld.fst _ _)
def F56_4 : Fld k56 (kInt .i64) := S56_3.comp (Fld.snd _ _)
abbrev a52 : Kd (List Nat) := kArr 2 (by decide) kF64
structure T108 where
  Name : ByteArray
  Value : (List UInt8)
instance : Inhabited T108 := ⟨(⟨ByteArray.empty, ([] : (List UInt8))⟩ : T108)⟩
def k108p : Kd (ByteArray × (List UInt8)) := (kProd kStr (kSl kByte))
def k108 : Kd T108 := kIso k108p (fun x : T108 => (x.Name, x.Value))
def F108 : Fld k108 k108p := Fld.iso k108p (fun x : T108 => (x.Name, x.Value)) (fun p => (⟨p.1, p.2⟩ : T108)) (fun _ => rfl)
def F108_0 : Fld k108 kStr := F108.comp (Fld.fst _ _)
def F108_1 : Fld k108 (kSl kByte) := F108.comp (Fld.snd _ _)
structure T94 where
  From : Int
  Home : Int
  Len : Int
instance : Inhabited T94 := ⟨(⟨(0 : Int), (0 : Int), (0 : Int)⟩ : T94)⟩
def k94p : Kd (Int × Int × Int) := (kProd (kInt .i64) (kProd (kInt .i64) (kInt .i64)))
def k94 : Kd T94 := kIso k94p (fun x : T94 => (x.From, x.Home, x.Len))
def F94 : Fld k94 k94p := Fld.iso k94p (fun x : T94 => (x.From, x.Home, x.Len)) (fun p => (⟨p.1, p.2.1, p.2.2⟩ : T94)) (fun _ => rfl)
def F94_0 : Fld k94 (kInt .i64) := F94.comp (Fld.fst _ _)
def S94_1 := F94.comp (Fld.snd _ _)
def F94_1 : Fld k94 (kInt .i64) := S94_1.comp (Fld.fst _ _)
def F94_2 : Fld k94 (kInt .i64) := S94_1.comp (Fld.snd _ _)
structure T84 where
  Kind : Int
  Mode : Int
  Uid : Int
  Gid : Int
  Links : Int
  Size : Int
  Times : (List Nat)
  Link : ByteArray
  Xattrs : (List T108)
  Extents : (List T94)
instance : Inhabited T84 := ⟨(⟨(0 : Int), (0 : Int), (0 : Int), (0 : Int), (0 : Int), (0 : Int), (List.replicate 2 (0 : Nat)), ByteArray.empty, ([] : (List T108)), ([] : (List T94))⟩ : T84)⟩
def k84p : Kd (Int × Int × Int × Int × Int × Int × (List Nat) × ByteArray × (List T108) × (List T94)) := (kProd (kInt .i64) (kProd (kInt .i64) (kProd (kInt .i64) (kProd (kInt .i64) (kProd (kInt .i64) (kProd (kInt .i64) (kProd a52 (kProd kStr (kProd (kSl k108) (kSl k94))))))))))
def k84 : Kd T84 := kIso k84p (fun x : T84 => (x.Kind, x.Mode, x.Uid, x.Gid, x.Links, x.Size, x.Times, x.Link, x.Xattrs, x.Extents))
def F84 : Fld k84 k84p := Fld.iso k84p (fun x : T84 => (x.Kind, x.Mode, x.Uid, x.Gid, x.Links, x.Size, x.Times, x.Link, x.Xattrs, x.Extents)) (fun p => (⟨p.1, p.2.1, p.2.2.1, p.2.2.2.1, p.2.2.2.2.1, p.2.2.2.2.2.1, p.2.2.2.2.2.2.1, p.2.2.2.2.2.2.2.1, p.2.2.2.2.2.2.2.2.1, p.2.2.2.2.2.2.2.2.2⟩ : T84)) (fun _ => rfl)
def F84_0 : Fld k84 (kInt .i64) := F84.comp (Fld.fst _ _)
def S84_1 := F84.comp (Fld.snd _ _)
def F84_1 : Fld k84 (kInt .i64) := S84_1.comp (Fld.fst _ _)
def S84_2 := S84_1.comp (Fld.snd _ _)
def F84_2 : Fld k84 (kInt .i64) := S84_2.comp (Fld.fst _ _)
def S84_3 := S84_2.comp (Fld.snd _ _)
def F84_3 : Fld k84 (kInt .i64) := S84_3.comp (Fld.fst _ _)
def S84_4 := S84_3.comp (Fld.snd _ _)
def F84_4 : Fld k84 (kInt .i64) := S84_4.comp (Fld.fst _ _)
def S84_5 := S84_4.comp (Fld.snd _ _)
def F84_5 : Fld k84 (kInt .i64) := S84_5.comp (Fld.fst _ _)
def S84_6 := S84_5.comp (Fld.snd _ _)
def F84_6 : Fld k84 a52 := S84_6.comp (Fld.fst _ _)
def S84_7 := S84_6.comp (Fld.snd _ _)
def F84_7 : Fld k84 kStr := S84_7.comp (Fld.fst _ _)
def S84_8 := S84_7.comp (Fld.snd _ _)
def F84_8 : Fld k84 (kSl k108) := S84_8.comp (Fld.fst _ _)
def F84_9 : Fld k84 (kSl k94) := S84_8.comp (Fld.snd _ _)
structure T87 where
  Name : ByteArray
  Inode : Int
instance : Inhabited T87 := ⟨(⟨ByteArray.empty, (0 : Int)⟩ : T87)⟩
def k87p : Kd (ByteArray × Int) := (kProd kStr (kInt .i64))
def k87 : Kd T87 := kIso k87p (fun x : T87 => (x.Name, x.Inode))
def F87 : Fld k87 k87p := Fld.iso k87p (fun x : T87 => (x.Name, x.Inode)) (fun p => (⟨p.1, p.2⟩ : T87)) (fun _ => rfl)
def F87_0 : Fld k87 kStr := F87.comp (Fld.fst _ _)
def F87_1 : Fld k87 (kInt .i64) := F87.comp (Fld.snd _ _)
structure T37 where
  Homes : Int
  Now : Nat
  Salt : (List UInt8)
  Users : (List T56)
  Inodes : (List T84)
  Dirs : (List (List T87))
  Blocks : (List (List UInt8))
instance : Inhabited T37 := ⟨(⟨(0 : Int), (0 : Nat), (List.replicate 16 (0 : UInt8)), ([] : (List T56)), ([] : (List T84)), ([] : (List (List T87))), ([] : (List (List UInt8)))⟩ : T37)⟩
def k37p : Kd (Int × Nat × (List UInt8) × (List T56) × (List T84) × (List (List T87)) × (List (List UInt8))) := (kProd (kInt .i64) (kProd kF64 (kProd a22 (kProd (kSl k56) (kProd (kSl k84) (kProd (kSl (kSl k87)) (kSl (kSl kByte))))))))
def k37 : Kd T37 := kIso k37p (fun x : T37 => (x.Homes, x.Now, x.Salt, x.Users, x.Inodes, x.Dirs, x.Blocks))
def F37 : Fld k37 k37p := Fld.iso k37p (fun x : T37 => (x.Homes, x.Now, x.Salt, x.Users, x.Inodes, x.Dirs, x.Blocks)) (fun p => (⟨p.1, p.2.1, p.2.2.1, p.2.2.2.1, p.2.2.2.2.1, p.2.2.2.2.2.1, p.2.2.2.2.2.2⟩ : T37)) (fun _ => rfl)
def S37_1 := F37.comp (Fld.snd _ _)
def S37_2 := S37_1.comp (Fld.snd _ _)
def S37_3 := S37_2.comp (Fld.snd _ _)
def S37_4 := S37_3.comp (Fld.snd _ _)
def F37_4 : Fld k37 (kSl k84) := S37_4.comp (Fld.fst _ _)
structure T37o where
  Homes : Int
  Now : Nat
  Salt : (List UInt8)
  Users : (List T56)
  Inodes : Value
  Dirs : Value
  Blocks : Value
def k37op : Kd (Int × Nat × (List UInt8) × (List T56) × Value × Value × Value) := (kProd (kInt .i64) (kProd kF64 (kProd a22 (kProd (kSl k56) (kProd kEx (kProd kEx kEx))))))
def k37o : Kd T37o := kIso k37op (fun x : T37o => (x.Homes, x.Now, x.Salt, x.Users, x.Inodes, x.Dirs, x.Blocks))
def F37o : Fld k37o k37op := Fld.iso k37op (fun x : T37o => (x.Homes, x.Now, x.Salt, x.Users, x.Inodes, x.Dirs, x.Blocks)) (fun p => (⟨p.1, p.2.1, p.2.2.1, p.2.2.2.1, p.2.2.2.2.1, p.2.2.2.2.2.1, p.2.2.2.2.2.2⟩ : T37o)) (fun _ => rfl)
def F37_0o : Fld k37o (kInt .i64) := F37o.comp (Fld.fst _ _)
def S37_1o := F37o.comp (Fld.snd _ _)
def F37_1o : Fld k37o kF64 := S37_1o.comp (Fld.fst _ _)
def S37_2o := S37_1o.comp (Fld.snd _ _)
def F37_2o : Fld k37o a22 := S37_2o.comp (Fld.fst _ _)
def S37_3o := S37_2o.comp (Fld.snd _ _)
def F37_3o : Fld k37o (kSl k56) := S37_3o.comp (Fld.fst _ _)
def S37_4o := S37_3o.comp (Fld.snd _ _)
def F37_4o : Fld k37o kEx := S37_4o.comp (Fld.fst _ _)
def S37_5o := S37_4o.comp (Fld.snd _ _)
def F37_5o : Fld k37o kEx := S37_5o.comp (Fld.fst _ _)
def F37_6o : Fld k37o kEx := S37_5o.comp (Fld.snd _ _)
structure T100 where
  used : Bool
  inode : Int
  at_ : Int
  mode : Int
instance : Inhabited T100 := ⟨(⟨false, (0 : Int), (0 : Int), (0 : Int)⟩ : T100)⟩
def k100p : Kd (Bool × Int × Int × Int) := (kProd kBool (kProd (kInt .i64) (kProd (kInt .i64) (kInt .i64))))
def k100 : Kd T100 := kIso k100p (fun x : T100 => (x.used, x.inode, x.at_, x.mode))
def F100 : Fld k100 k100p := Fld.iso k100p (fun x : T100 => (x.used, x.inode, x.at_, x.mode)) (fun p => (⟨p.1, p.2.1, p.2.2.1, p.2.2.2⟩ : T100)) (fun _ => rfl)
def F100_0 : Fld k100 kBool := F100.comp (Fld.fst _ _)
def S100_1 := F100.comp (Fld.snd _ _)
def F100_1 : Fld k100 (kInt .i64) := S100_1.comp (Fld.fst _ _)
def S100_2 := S100_1.comp (Fld.snd _ _)
def F100_2 : Fld k100 (kInt .i64) := S100_2.comp (Fld.fst _ _)
def F100_3 : Fld k100 (kInt .i64) := S100_2.comp (Fld.snd _ _)
abbrev a101 : Kd (List T100) := kArr 8 (by decide) k100
structure T103 where
  p : T37
  fds : (List T100)
instance : Inhabited T103 := ⟨(⟨(⟨(0 : Int), (0 : Nat), (List.replicate 16 (0 : UInt8)), ([] : (List T56)), ([] : (List T84)), ([] : (List (List T87))), ([] : (List (List UInt8)))⟩ : T37), (List.replicate 8 (⟨false, (0 : Int), (0 : Int), (0 : Int)⟩ : T100))⟩ : T103)⟩
structure T103o where
  p : T37o
  fds : (List T100)
def k103op : Kd (T37o × (List T100)) := (kProd k37o a101)
def k103o : Kd T103o := kIso k103op (fun x : T103o => (x.p, x.fds))
def F103o : Fld k103o k103op := Fld.iso k103op (fun x : T103o => (x.p, x.fds)) (fun p => (⟨p.1, p.2⟩ : T103o)) (fun _ => rfl)
def F103_0o : Fld k103o k37o := F103o.comp (Fld.fst _ _)
def F103_1o : Fld k103o a101 := F103o.comp (Fld.snd _ _)
structure T54 where
  Inode : Int
  Kind : Int
  Mode : Int
  Uid : Int
  Gid : Int
  Links : Int
  Size : Int
  Blocks : Int
  Times : (List Nat)
instance : Inhabited T54 := ⟨(⟨(0 : Int), (0 : Int), (0 : Int), (0 : Int), (0 : Int), (0 : Int), (0 : Int), (0 : Int), (List.replicate 2 (0 : Nat))⟩ : T54)⟩
def k54p : Kd (Int × Int × Int × Int × Int × Int × Int × Int × (List Nat)) := (kProd (kInt .i64) (kProd (kInt .i64) (kProd (kInt .i64) (kProd (kInt .i64) (kProd (kInt .i64) (kProd (kInt .i64) (kProd (kInt .i64) (kProd (kInt .i64) a52))))))))
def k54 : Kd T54 := kIso k54p (fun x : T54 => (x.Inode, x.Kind, x.Mode, x.Uid, x.Gid, x.Links, x.Size, x.Blocks, x.Times))
def F54 : Fld k54 k54p := Fld.iso k54p (fun x : T54 => (x.Inode, x.Kind, x.Mode, x.Uid, x.Gid, x.Links, x.Size, x.Blocks, x.Times)) (fun p => (⟨p.1, p.2.1, p.2.2.1, p.2.2.2.1, p.2.2.2.2.1, p.2.2.2.2.2.1, p.2.2.2.2.2.2.1, p.2.2.2.2.2.2.2.1, p.2.2.2.2.2.2.2.2⟩ : T54)) (fun _ => rfl)
def F54_0 : Fld k54 (kInt .i64) := F54.comp (Fld.fst _ _)
def S54_1 := F54.comp (Fld.snd _ _)
def F54_1 : Fld k54 (kInt .i64) := S54_1.comp (Fld.fst _ _)
def S54_2 := S54_1.comp (Fld.snd _ _)
def F54_2 : Fld k54 (kInt .i64) := S54_2.comp (Fld.fst _ _)
def S54_3 := S54_2.comp (Fld.snd _ _)
def F54_3 : Fld k54 (kInt .i64) := S54_3.comp (Fld.fst _ _)
def S54_4 := S54_3.comp (Fld.snd _ _)
def F54_4 : Fld k54 (kInt .i64) := S54_4.comp (Fld.fst _ _)
def S54_5 := S54_4.comp (Fld.snd _ _)
def F54_5 : Fld k54 (kInt .i64) := S54_5.comp (Fld.fst _ _)
def S54_6 := S54_5.comp (Fld.snd _ _)
def F54_6 : Fld k54 (kInt .i64) := S54_6.comp (Fld.fst _ _)
def S54_7 := S54_6.comp (Fld.snd _ _)
def F54_7 : Fld k54 (kInt .i64) := S54_7.comp (Fld.fst _ _)
def F54_8 : Fld k54 a52 := S54_7.comp (Fld.snd _ _)
structure T58 where
  Err : Int
  N : Int
  Data : (List UInt8)
  Names : (List ByteArray)
  Stat : T54
  Usage : T56
instance : Inhabited T58 := ⟨(⟨(0 : Int), (0 : Int), ([] : (List UInt8)), ([] : (List ByteArray)), (⟨(0 : Int), (0 : Int), (0 : Int), (0 : Int), (0 : Int), (0 : Int), (0 : Int), (0 : Int), (List.replicate 2 (0 : Nat))⟩ : T54), (⟨(0 : Int), (0 : Int), (0 : Int), (0 : Int), (0 : Int)⟩ : T56)⟩ : T58)⟩
def k58p : Kd (Int × Int × (List UInt8) × (List ByteArray) × T54 × T56) := (kProd (kInt .i64) (kProd (kInt .i64) (kProd (kSl kByte) (kProd (kSl kStr) (kProd k54 k56)))))
def k58 : Kd T58 := kIso k58p (fun x : T58 => (x.Err, x.N, x.Data, x.Names, x.Stat, x.Usage))
def F58 : Fld k58 k58p := Fld.iso k58p (fun x : T58 => (x.Err, x.N, x.Data, x.Names, x.Stat, x.Usage)) (fun p => (⟨p.1, p.2.1, p.2.2.1, p.2.2.2.1, p.2.2.2.2.1, p.2.2.2.2.2⟩ : T58)) (fun _ => rfl)
def F58_0 : Fld k58 (kInt .i64) := F58.comp (Fld.fst _ _)
def S58_1 := F58.comp (Fld.snd _ _)
def F58_1 : Fld k58 (kInt .i64) := S58_1.comp (Fld.fst _ _)
def S58_2 := S58_1.comp (Fld.snd _ _)
def F58_2 : Fld k58 (kSl kByte) := S58_2.comp (Fld.fst _ _)
def S58_3 := S58_2.comp (Fld.snd _ _)
def F58_3 : Fld k58 (kSl kStr) := S58_3.comp (Fld.fst _ _)
def S58_4 := S58_3.comp (Fld.snd _ _)
def F58_4 : Fld k58 k54 := S58_4.comp (Fld.fst _ _)
def F58_5 : Fld k58 k56 := S58_4.comp (Fld.snd _ _)
structure T210 where
  inode : Int
  parent : Int
  name : ByteArray
instance : Inhabited T210 := ⟨(⟨(0 : Int), (0 : Int), ByteArray.empty⟩ : T210)⟩
def k210p : Kd (Int × Int × ByteArray) := (kProd (kInt .i64) (kProd (kInt .i64) kStr))
def k210 : Kd T210 := kIso k210p (fun x : T210 => (x.inode, x.parent, x.name))
def F210 : Fld k210 k210p := Fld.iso k210p (fun x : T210 => (x.inode, x.parent, x.name)) (fun p => (⟨p.1, p.2.1, p.2.2⟩ : T210)) (fun _ => rfl)
def F210_0 : Fld k210 (kInt .i64) := F210.comp (Fld.fst _ _)
def S210_1 := F210.comp (Fld.snd _ _)
def F210_1 : Fld k210 (kInt .i64) := S210_1.comp (Fld.fst _ _)
def F210_2 : Fld k210 kStr := S210_1.comp (Fld.snd _ _)
abbrev a298 : Kd (List Bool) := kArr 256 (by decide) kBool
abbrev a313 : Kd (List Int) := kArr 40 (by decide) (kInt .i64)
abbrev os37 (q0 : Nat) (q1 : Nat) (q2 : Nat) (n0 n1 n2 : Nat) (x : T37) : T37o := (⟨x.Homes, x.Now, x.Salt, x.Users, hdr (some q0) x.Inodes.length n0, hdr (some q1) x.Dirs.length n1, hdr (some q2) x.Blocks.length n2⟩ : T37o)
abbrev osr37 (q0 : Nat) (q1 : Nat) (q2 : Nat) (n0 n1 n2 : Nat) (x : T37) : List Own := [⟨k84, x.Inodes, n0, (some q0), 84⟩, ⟨(kSl k87), x.Dirs, n1, (some q1), 85⟩, ⟨(kSl kByte), x.Blocks, n2, (some q2), 43⟩]
def fS37 (x : T37) : Fct := fun _ H v O => ∃ q0 q1 q2 n0 n1 n2, O = osr37 q0 q1 q2 n0 n1 n2 x ∧ k37o.val H v (os37 q0 q1 q2 n0 n1 n2 x)
theorem monS37 {x : T37} : Mon (fS37 x) := by
  rintro L L' G H v O _ h ⟨q0, q1, q2, n0, n1, n2, rfl, h1⟩
  exact ⟨q0, q1, q2, n0, n1, n2, rfl, Kd.val_mono h h1⟩
abbrev own103 (b : Nat) (q0 : Nat) (q1 : Nat) (q2 : Nat) (n0 n1 n2 : Nat) (x : T103) : List Own := [⟨k103o, [(⟨(⟨x.p.Homes, x.p.Now, x.p.Salt, x.p.Users, hdr (some q0) x.p.Inodes.length n0, hdr (some q1) x.p.Dirs.length n1, hdr (some q2) x.p.Blocks.length n2⟩ : T37o), x.fds⟩ : T103o)], 1, some b, 103⟩, ⟨k84, x.p.Inodes, n0, (some q0), 84⟩, ⟨(kSl k87), x.p.Dirs, n1, (some q1), 85⟩, ⟨(kSl kByte), x.p.Blocks, n2, (some q2), 43⟩]
def pto103 : Option T103 → Value → List Own → Prop
  | none, v, Δ => v = .pointer none ∧ Δ = []
  | some x, v, Δ => ∃ b q0 q1 q2 n0 n1 n2, v = .pointer (some (adr b 0 k103o.n (Fld.id k103o).off)) ∧ Δ = own103 b q0 q1 q2 n0 n1 n2 x
abbrev own359 (b : Nat) (x : (List Bool)) : List Own := [⟨a298, [x], 1, some b, 359⟩]
theorem t4 : tyOf Tryz.prog 4 = some (kBool.n, kBool.ag) := by kernel_rfl
theorem z4 : Zr Tryz.prog kBool 4 false := ⟨_, .bool false, rfl, by kernel_rfl, fun _ => Kd.val_of_one rfl zr_bool⟩
theorem e4 : elB Tryz.prog 4 kBool.n = true := by kernel_rfl
theorem t30 : tyOf Tryz.prog 30 = some ((kInt .i64).n, (kInt .i64).ag) := by kernel_rfl
theorem u30 : Tryz.prog.underlying 30 = some (.int .i64) := by kernel_rfl
theorem t3 : tyOf Tryz.prog 3 = some ((kInt .i64).n, (kInt .i64).ag) := by kernel_rfl
theorem u3 : Tryz.prog.underlying 3 = some (.int .i64) := by kernel_rfl
theorem z3 : Zr Tryz.prog (kInt .i64) 3 (0 : Int) := ⟨_, .int .i64 0, rfl, by kernel_rfl, fun _ => Kd.val_of_one rfl zr_int⟩
theorem e3 : elB Tryz.prog 3 (kInt .i64).n = true := by kernel_rfl
theorem t9 : tyOf Tryz.prog 9 = some (kStr.n, kStr.ag) := by kernel_rfl
theorem u9 : Tryz.prog.underlying 9 = some .string := by kernel_rfl
theorem z9 : Zr Tryz.prog kStr 9 ByteArray.empty := ⟨_, .string ByteArray.empty, rfl, by kernel_rfl, fun _ => Kd.val_of_one rfl zr_str⟩
theorem e9 : elB Tryz.prog 9 kStr.n = true := by kernel_rfl
theorem t5 : tyOf Tryz.prog 5 = some (kByte.n, kByte.ag) := by kernel_rfl
theorem u5 : Tryz.prog.underlying 5 = some (.int .u8) := by kernel_rfl
theorem z5 : Zr Tryz.prog kByte 5 (0 : UInt8) := ⟨_, .int .u8 0, rfl, by kernel_rfl, fun _ => Kd.val_of_one rfl zr_byte⟩
theorem e5 : elB Tryz.prog 5 kByte.n = true := by kernel_rfl
theorem t43 : tyOf Tryz.prog 43 = some ((kSl kByte).n, (kSl kByte).ag) := by kernel_rfl
theorem s43 : slOf Tryz.prog 43 = some 5 := by kernel_rfl
theorem z43 : Zr Tryz.prog (kSl kByte) 43 ([] : (List UInt8)) := ⟨_, .slice none 0 0, rfl, by kernel_rfl, fun _ => Kd.val_of_one rfl zr_sl⟩
theorem e43 : elB Tryz.prog 43 (kSl kByte).n = true := by kernel_rfl
theorem t31 : tyOf Tryz.prog 31 = some (kF64.n, kF64.ag) := by kernel_rfl
theorem u31 : Tryz.prog.underlying 31 = some (.float .f64) := by kernel_rfl
theorem t45 : tyOf Tryz.prog 45 = some (k45.n, k45.ag) := by kernel_rfl
theorem o45_0 : fldOff Tryz.prog 45 0 = some F45_0.off := by kernel_rfl
theorem o45_1 : fldOff Tryz.prog 45 1 = some F45_1.off := by kernel_rfl
theorem o45_2 : fldOff Tryz.prog 45 2 = some F45_2.off := by kernel_rfl
theorem o45_3 : fldOff Tryz.prog 45 3 = some F45_3.off := by kernel_rfl
theorem o45_4 : fldOff Tryz.prog 45 4 = some F45_4.off := by kernel_rfl
theorem o45_5 : fldOff Tryz.prog 45 5 = some F45_5.off := by kernel_rfl
theorem o45_6 : fldOff Tryz.prog 45 6 = some F45_6.off := by kernel_rfl
theorem o45_7 : fldOff Tryz.prog 45 7 = some F45_7.off := by kernel_rfl
theorem o45_8 : fldOff Tryz.prog 45 8 = some F45_8.off := by kernel_rfl
theorem o45_9 : fldOff Tryz.prog 45 9 = some F45_9.off := by kernel_rfl
theorem pl45 : plS Tryz.prog 45 = some [(0, 1), (1, 1), (2, 1), (3, 1), (4, 1), (5, 1), (6, 1), (7, 1), (8, 1), (9, 1)] := by kernel_rfl
theorem zr45 {G : Gh} : k45.rep G [.int .i64 0, .int .i64 0, .int .i64 0, .string ByteArray.empty, .string ByteArray.empty, .slice none 0 0, .int .i64 0, .int .i64 0, .int .i64 0, .float .f64 0] (⟨(0 : Int), (0 : Int), (0 : Int), ByteArray.empty, ByteArray.empty, ([] : (List UInt8)), (0 : Int), (0 : Int), (0 : Int), (0 : Nat)⟩ : T45) := (zr_iso (zr_prod zr_int (zr_prod zr_int (zr_prod zr_int (zr_prod zr_str (zr_prod zr_str (zr_prod zr_sl (zr_prod zr_int (zr_prod zr_int (zr_prod zr_int zr_f64))))))))))
theorem z45 : Zr Tryz.prog k45 45 (⟨(0 : Int), (0 : Int), (0 : Int), ByteArray.empty, ByteArray.empty, ([] : (List UInt8)), (0 : Int), (0 : Int), (0 : Int), (0 : Nat)⟩ : T45) := ⟨_, .agg #[.int .i64 0, .int .i64 0, .int .i64 0, .string ByteArray.empty, .string ByteArray.empty, .slice none 0 0, .int .i64 0, .int .i64 0, .int .i64 0, .float .f64 0], rfl, by kernel_rfl, fun _ => Kd.val_of_agg rfl zr45⟩
theorem t22 : tyOf Tryz.prog 22 = some (a22.n, a22.ag) := by kernel_rfl
theorem r22 : arrOf Tryz.prog 22 = some (16, 5) := by kernel_rfl
theorem z22 : Zr Tryz.prog a22 22 (List.replicate 16 (0 : UInt8)) := ⟨_, .agg (List.replicate 16 (.int .u8 0)).toArray, rfl, by kernel_rfl, fun _ => Kd.val_of_agg rfl (zr_arr zr_byte)⟩
theorem t56 : tyOf Tryz.prog 56 = some (k56.n, k56.ag) := by kernel_rfl
theorem o56_0 : fldOff Tryz.prog 56 0 = some F56_0.off := by kernel_rfl
theorem o56_1 : fldOff Tryz.prog 56 1 = some F56_1.off := by kernel_rfl
theorem o56_2 : fldOff Tryz.prog 56 2 = some F56_2.off := by kernel_rfl
theorem o56_3 : fldOff Tryz.prog 56 3 = some F56_3.off := by kernel_rfl
theorem o56_4 : fldOff Tryz.prog 56 4 = some F56_4.off := by kernel_rfl
theorem pl56 : plS Tryz.prog 56 = some [(0, 1), (1, 1), (2, 1), (3, 1), (4, 1)] := by kernel_rfl
theorem zr56 {G : Gh} : k56.rep G [.int .i64 0, .int .i64 0, .int .i64 0, .int .i64 0, .int .i64 0] (⟨(0 : Int), (0 : Int), (0 : Int), (0 : Int), (0 : Int)⟩ : T56) := (zr_iso (zr_prod zr_int (zr_prod zr_int (zr_prod zr_int (zr_prod zr_int zr_int)))))
theorem z56 : Zr Tryz.prog k56 56 (⟨(0 : Int), (0 : Int), (0 : Int), (0 : Int), (0 : Int)⟩ : T56) := ⟨_, .agg #[.int .i64 0, .int .i64 0, .int .i64 0, .int .i64 0, .int .i64 0], rfl, by kernel_rfl, fun _ => Kd.val_of_agg rfl zr56⟩
theorem e56 : elB Tryz.prog 56 k56.n = true := by kernel_rfl
theorem t32 : tyOf Tryz.prog 32 = some ((kSl k56).n, (kSl k56).ag) := by kernel_rfl
theorem s32 : slOf Tryz.prog 32 = some 56 := by kernel_rfl
theorem t51 : tyOf Tryz.prog 51 = some ((kInt .i64).n, (kInt .i64).ag) := by kernel_rfl
theorem u51 : Tryz.prog.underlying 51 = some (.int .i64) := by kernel_rfl
theorem t52 : tyOf Tryz.prog 52 = some (a52.n, a52.ag) := by kernel_rfl
theorem r52 : arrOf Tryz.prog 52 = some (2, 31) := by kernel_rfl
theorem z52 : Zr Tryz.prog a52 52 (List.replicate 2 (0 : Nat)) := ⟨_, .agg #[.float .f64 0, .float .f64 0], rfl, by kernel_rfl, fun _ => Kd.val_of_agg rfl (zr_arr zr_f64)⟩
theorem t108 : tyOf Tryz.prog 108 = some (k108.n, k108.ag) := by kernel_rfl
theorem o108_0 : fldOff Tryz.prog 108 0 = some F108_0.off := by kernel_rfl
theorem o108_1 : fldOff Tryz.prog 108 1 = some F108_1.off := by kernel_rfl
theorem pl108 : plS Tryz.prog 108 = some [(0, 1), (1, 1)] := by kernel_rfl
theorem zr108 {G : Gh} : k108.rep G [.string ByteArray.empty, .slice none 0 0] (⟨ByteArray.empty, ([] : (List UInt8))⟩ : T108) := (zr_iso (zr_prod zr_str zr_sl))
theorem z108 : Zr Tryz.prog k108 108 (⟨ByteArray.empty, ([] : (List UInt8))⟩ : T108) := ⟨_, .agg #[.string ByteArray.empty, .slice none 0 0], rfl, by kernel_rfl, fun _ => Kd.val_of_agg rfl zr108⟩
theorem e108 : elB Tryz.prog 108 k108.n = true := by kernel_rfl
theorem t81 : tyOf Tryz.prog 81 = some ((kSl k108).n, (kSl k108).ag) := by kernel_rfl
theorem s81 : slOf Tryz.prog 81 = some 108 := by kernel_rfl
theorem t94 : tyOf Tryz.prog 94 = some (k94.n, k94.ag) := by kernel_rfl
theorem o94_0 : fldOff Tryz.prog 94 0 = some F94_0.off := by kernel_rfl
theorem o94_1 : fldOff Tryz.prog 94 1 = some F94_1.off := by kernel_rfl
theorem o94_2 : fldOff Tryz.prog 94 2 = some F94_2.off := by kernel_rfl
theorem pl94 : plS Tryz.prog 94 = some [(0, 1), (1, 1), (2, 1)] := by kernel_rfl
theorem zr94 {G : Gh} : k94.rep G [.int .i64 0, .int .i64 0, .int .i64 0] (⟨(0 : Int), (0 : Int), (0 : Int)⟩ : T94) := (zr_iso (zr_prod zr_int (zr_prod zr_int zr_int)))
theorem z94 : Zr Tryz.prog k94 94 (⟨(0 : Int), (0 : Int), (0 : Int)⟩ : T94) := ⟨_, .agg #[.int .i64 0, .int .i64 0, .int .i64 0], rfl, by kernel_rfl, fun _ => Kd.val_of_agg rfl zr94⟩
theorem e94 : elB Tryz.prog 94 k94.n = true := by kernel_rfl
theorem t82 : tyOf Tryz.prog 82 = some ((kSl k94).n, (kSl k94).ag) := by kernel_rfl
theorem s82 : slOf Tryz.prog 82 = some 94 := by kernel_rfl
theorem t84 : tyOf Tryz.prog 84 = some (k84.n, k84.ag) := by kernel_rfl
theorem o84_0 : fldOff Tryz.prog 84 0 = some F84_0.off := by kernel_rfl
theorem o84_1 : fldOff Tryz.prog 84 1 = some F84_1.off := by kernel_rfl
theorem o84_2 : fldOff Tryz.prog 84 2 = some F84_2.off := by kernel_rfl
theorem o84_3 : fldOff Tryz.prog 84 3 = some F84_3.off := by kernel_rfl
theorem o84_4 : fldOff Tryz.prog 84 4 = some F84_4.off := by kernel_rfl
theorem o84_5 : fldOff Tryz.prog 84 5 = some F84_5.off := by kernel_rfl
theorem o84_6 : fldOff Tryz.prog 84 6 = some F84_6.off := by kernel_rfl
theorem o84_7 : fldOff Tryz.prog 84 7 = some F84_7.off := by kernel_rfl
theorem o84_8 : fldOff Tryz.prog 84 8 = some F84_8.off := by kernel_rfl
theorem o84_9 : fldOff Tryz.prog 84 9 = some F84_9.off := by kernel_rfl
theorem pl84 : plS Tryz.prog 84 = some [(0, 1), (1, 1), (2, 1), (3, 1), (4, 1), (5, 1), (6, 2), (8, 1), (9, 1), (10, 1)] := by kernel_rfl
theorem zr84 {G : Gh} : k84.rep G [.int .i64 0, .int .i64 0, .int .i64 0, .int .i64 0, .int .i64 0, .int .i64 0, .float .f64 0, .float .f64 0, .string ByteArray.empty, .slice none 0 0, .slice none 0 0] (⟨(0 : Int), (0 : Int), (0 : Int), (0 : Int), (0 : Int), (0 : Int), (List.replicate 2 (0 : Nat)), ByteArray.empty, ([] : (List T108)), ([] : (List T94))⟩ : T84) := (zr_iso (zr_prod zr_int (zr_prod zr_int (zr_prod zr_int (zr_prod zr_int (zr_prod zr_int (zr_prod zr_int (zr_prod (zr_arr zr_f64) (zr_prod zr_str (zr_prod zr_sl zr_sl))))))))))
theorem z84 : Zr Tryz.prog k84 84 (⟨(0 : Int), (0 : Int), (0 : Int), (0 : Int), (0 : Int), (0 : Int), (List.replicate 2 (0 : Nat)), ByteArray.empty, ([] : (List T108)), ([] : (List T94))⟩ : T84) := ⟨_, .agg #[.int .i64 0, .int .i64 0, .int .i64 0, .int .i64 0, .int .i64 0, .int .i64 0, .float .f64 0, .float .f64 0, .string ByteArray.empty, .slice none 0 0, .slice none 0 0], rfl, by kernel_rfl, fun _ => Kd.val_of_agg rfl zr84⟩
theorem e84 : elB Tryz.prog 84 k84.n = true := by kernel_rfl
theorem t33 : tyOf Tryz.prog 33 = some ((kSl k84).n, (kSl k84).ag) := by kernel_rfl
theorem s33 : slOf Tryz.prog 33 = some 84 := by kernel_rfl
theorem t87 : tyOf Tryz.prog 87 = some (k87.n, k87.ag) := by kernel_rfl
theorem o87_0 : fldOff Tryz.prog 87 0 = some F87_0.off := by kernel_rfl
theorem o87_1 : fldOff Tryz.prog 87 1 = some F87_1.off := by kernel_rfl
theorem pl87 : plS Tryz.prog 87 = some [(0, 1), (1, 1)] := by kernel_rfl
theorem zr87 {G : Gh} : k87.rep G [.string ByteArray.empty, .int .i64 0] (⟨ByteArray.empty, (0 : Int)⟩ : T87) := (zr_iso (zr_prod zr_str zr_int))
theorem z87 : Zr Tryz.prog k87 87 (⟨ByteArray.empty, (0 : Int)⟩ : T87) := ⟨_, .agg #[.string ByteArray.empty, .int .i64 0], rfl, by kernel_rfl, fun _ => Kd.val_of_agg rfl zr87⟩
theorem e87 : elB Tryz.prog 87 k87.n = true := by kernel_rfl
theorem t85 : tyOf Tryz.prog 85 = some ((kSl k87).n, (kSl k87).ag) := by kernel_rfl
theorem s85 : slOf Tryz.prog 85 = some 87 := by kernel_rfl
theorem z85 : Zr Tryz.prog (kSl k87) 85 ([] : (List T87)) := ⟨_, .slice none 0 0, rfl, by kernel_rfl, fun _ => Kd.val_of_one rfl zr_sl⟩
theorem e85 : elB Tryz.prog 85 (kSl k87).n = true := by kernel_rfl
theorem t34 : tyOf Tryz.prog 34 = some ((kSl (kSl k87)).n, (kSl (kSl k87)).ag) := by kernel_rfl
theorem s34 : slOf Tryz.prog 34 = some 85 := by kernel_rfl
theorem t35 : tyOf Tryz.prog 35 = some ((kSl (kSl kByte)).n, (kSl (kSl kByte)).ag) := by kernel_rfl
theorem s35 : slOf Tryz.prog 35 = some 43 := by kernel_rfl
theorem t37 : tyOf Tryz.prog 37 = some (k37.n, k37.ag) := by kernel_rfl
theorem t37o : tyOf Tryz.prog 37 = some (k37o.n, k37o.ag) := by kernel_rfl
theorem o37_4 : fldOff Tryz.prog 37 4 = some F37_4.off := by kernel_rfl
theorem o37_0o : fldOff Tryz.prog 37 0 = some F37_0o.off := by kernel_rfl
theorem o37_1o : fldOff Tryz.prog 37 1 = some F37_1o.off := by kernel_rfl
theorem o37_2o : fldOff Tryz.prog 37 2 = some F37_2o.off := by kernel_rfl
theorem o37_3o : fldOff Tryz.prog 37 3 = some F37_3o.off := by kernel_rfl
theorem o37_4o : fldOff Tryz.prog 37 4 = some F37_4o.off := by kernel_rfl
theorem o37_5o : fldOff Tryz.prog 37 5 = some F37_5o.off := by kernel_rfl
theorem o37_6o : fldOff Tryz.prog 37 6 = some F37_6o.off := by kernel_rfl
theorem ft37_4 : fldT Tryz.prog 37 4 = some 33 := by kernel_rfl
theorem pl37 : plS Tryz.prog 37 = some [(0, 1), (1, 1), (2, 16), (18, 1), (19, 1), (20, 1), (21, 1)] := by kernel_rfl
theorem zr37 {G : Gh} : k37.rep G [.int .i64 0, .float .f64 0, .int .u8 0, .int .u8 0, .int .u8 0, .int .u8 0, .int .u8 0, .int .u8 0, .int .u8 0, .int .u8 0, .int .u8 0, .int .u8 0, .int .u8 0, .int .u8 0, .int .u8 0, .int .u8 0, .int .u8 0, .int .u8 0, .slice none 0 0, .slice none 0 0, .slice none 0 0, .slice none 0 0] (⟨(0 : Int), (0 : Nat), (List.replicate 16 (0 : UInt8)), ([] : (List T56)), ([] : (List T84)), ([] : (List (List T87))), ([] : (List (List UInt8)))⟩ : T37) := (zr_iso (zr_prod zr_int (zr_prod zr_f64 (zr_prod (zr_arr zr_byte) (zr_prod zr_sl (zr_prod zr_sl (zr_prod zr_sl zr_sl)))))))
theorem z37 : Zr Tryz.prog k37 37 (⟨(0 : Int), (0 : Nat), (List.replicate 16 (0 : UInt8)), ([] : (List T56)), ([] : (List T84)), ([] : (List (List T87))), ([] : (List (List UInt8)))⟩ : T37) := ⟨_, .agg #[.int .i64 0, .float .f64 0, .int .u8 0, .int .u8 0, .int .u8 0, .int .u8 0, .int .u8 0, .int .u8 0, .int .u8 0, .int .u8 0, .int .u8 0, .int .u8 0, .int .u8 0, .int .u8 0, .int .u8 0, .int .u8 0, .int .u8 0, .int .u8 0, .slice none 0 0, .slice none 0 0, .slice none 0 0, .slice none 0 0], rfl, by kernel_rfl, fun _ => Kd.val_of_agg rfl zr37⟩
theorem zr37o {G : Gh} : k37o.rep G [.int .i64 0, .float .f64 0, .int .u8 0, .int .u8 0, .int .u8 0, .int .u8 0, .int .u8 0, .int .u8 0, .int .u8 0, .int .u8 0, .int .u8 0, .int .u8 0, .int .u8 0, .int .u8 0, .int .u8 0, .int .u8 0, .int .u8 0, .int .u8 0, .slice none 0 0, .slice none 0 0, .slice none 0 0, .slice none 0 0] (⟨(0 : Int), (0 : Nat), (List.replicate 16 (0 : UInt8)), ([] : (List T56)), (.slice none 0 0), (.slice none 0 0), (.slice none 0 0)⟩ : T37o) := (zr_iso (zr_prod zr_int (zr_prod zr_f64 (zr_prod (zr_arr zr_byte) (zr_prod zr_sl (zr_prod (zr_ex rfl) (zr_prod (zr_ex rfl) (zr_ex rfl))))))))
theorem z37o : Zr Tryz.prog k37o 37 (⟨(0 : Int), (0 : Nat), (List.replicate 16 (0 : UInt8)), ([] : (List T56)), (.slice none 0 0), (.slice none 0 0), (.slice none 0 0)⟩ : T37o) := ⟨_, .agg #[.int .i64 0, .float .f64 0, .int .u8 0, .int .u8 0, .int .u8 0, .int .u8 0, .int .u8 0, .int .u8 0, .int .u8 0, .int .u8 0, .int .u8 0, .int .u8 0, .int .u8 0, .int .u8 0, .int .u8 0, .int .u8 0, .int .u8 0, .int .u8 0, .slice none 0 0, .slice none 0 0, .slice none 0 0, .slice none 0 0], rfl, by kernel_rfl, fun _ => Kd.val_of_agg rfl zr37o⟩
theorem t100 : tyOf Tryz.prog 100 = some (k100.n, k100.ag) := by kernel_rfl
theorem o100_0 : fldOff Tryz.prog 100 0 = some F100_0.off := by kernel_rfl
theorem o100_1 : fldOff Tryz.prog 100 1 = some F100_1.off := by kernel_rfl
theorem o100_2 : fldOff Tryz.prog 100 2 = some F100_2.off := by kernel_rfl
theorem o100_3 : fldOff Tryz.prog 100 3 = some F100_3.off := by kernel_rfl
theorem zr100 {G : Gh} : k100.rep G [.bool false, .int .i64 0, .int .i64 0, .int .i64 0] (⟨false, (0 : Int), (0 : Int), (0 : Int)⟩ : T100) := (zr_iso (zr_prod zr_bool (zr_prod zr_int (zr_prod zr_int zr_int))))
theorem t101 : tyOf Tryz.prog 101 = some (a101.n, a101.ag) := by kernel_rfl
theorem r101 : arrOf Tryz.prog 101 = some (8, 100) := by kernel_rfl
theorem t103o : tyOf Tryz.prog 103 = some (k103o.n, k103o.ag) := by kernel_rfl
theorem o103_0o : fldOff Tryz.prog 103 0 = some F103_0o.off := by kernel_rfl
theorem o103_1o : fldOff Tryz.prog 103 1 = some F103_1o.off := by kernel_rfl
theorem pl103 : plS Tryz.prog 103 = some [(0, 22), (22, 32)] := by kernel_rfl
theorem zr103o {G : Gh} : k103o.rep G [.int .i64 0, .float .f64 0, .int .u8 0, .int .u8 0, .int .u8 0, .int .u8 0, .int .u8 0, .int .u8 0, .int .u8 0, .int .u8 0, .int .u8 0, .int .u8 0, .int .u8 0, .int .u8 0, .int .u8 0, .int .u8 0, .int .u8 0, .int .u8 0, .slice none 0 0, .slice none 0 0, .slice none 0 0, .slice none 0 0, .bool false, .int .i64 0, .int .i64 0, .int .i64 0, .bool false, .int .i64 0, .int .i64 0, .int .i64 0, .bool false, .int .i64 0, .int .i64 0, .int .i64 0, .bool false, .int .i64 0, .int .i64 0, .int .i64 0, .bool false, .int .i64 0, .int .i64 0, .int .i64 0, .bool false, .int .i64 0, .int .i64 0, .int .i64 0, .bool false, .int .i64 0, .int .i64 0, .int .i64 0, .bool false, .int .i64 0, .int .i64 0, .int .i64 0] (⟨(⟨(0 : Int), (0 : Nat), (List.replicate 16 (0 : UInt8)), ([] : (List T56)), (.slice none 0 0), (.slice none 0 0), (.slice none 0 0)⟩ : T37o), (List.replicate 8 (⟨false, (0 : Int), (0 : Int), (0 : Int)⟩ : T100))⟩ : T103o) := (zr_iso (zr_prod zr37o (zr_arr zr100)))
theorem z103o : Zr Tryz.prog k103o 103 (⟨(⟨(0 : Int), (0 : Nat), (List.replicate 16 (0 : UInt8)), ([] : (List T56)), (.slice none 0 0), (.slice none 0 0), (.slice none 0 0)⟩ : T37o), (List.replicate 8 (⟨false, (0 : Int), (0 : Int), (0 : Int)⟩ : T100))⟩ : T103o) := ⟨_, .agg #[.int .i64 0, .float .f64 0, .int .u8 0, .int .u8 0, .int .u8 0, .int .u8 0, .int .u8 0, .int .u8 0, .int .u8 0, .int .u8 0, .int .u8 0, .int .u8 0, .int .u8 0, .int .u8 0, .int .u8 0, .int .u8 0, .int .u8 0, .int .u8 0, .slice none 0 0, .slice none 0 0, .slice none 0 0, .slice none 0 0, .bool false, .int .i64 0, .int .i64 0, .int .i64 0, .bool false, .int .i64 0, .int .i64 0, .int .i64 0, .bool false, .int .i64 0, .int .i64 0, .int .i64 0, .bool false, .int .i64 0, .int .i64 0, .int .i64 0, .bool false, .int .i64 0, .int .i64 0, .int .i64 0, .bool false, .int .i64 0, .int .i64 0, .int .i64 0, .bool false, .int .i64 0, .int .i64 0, .int .i64 0, .bool false, .int .i64 0, .int .i64 0, .int .i64 0], rfl, by kernel_rfl, fun _ => Kd.val_of_agg rfl zr103o⟩
theorem t28 : tyOf Tryz.prog 28 = some ((kInt .i64).n, (kInt .i64).ag) := by kernel_rfl
theorem u80 : Tryz.prog.underlying 80 = some (.int .u64) := by kernel_rfl
theorem s23 : slOf Tryz.prog 23 = some 45 := by kernel_rfl
theorem t50 : tyOf Tryz.prog 50 = some ((kSl kStr).n, (kSl kStr).ag) := by kernel_rfl
theorem s50 : slOf Tryz.prog 50 = some 9 := by kernel_rfl
theorem t54 : tyOf Tryz.prog 54 = some (k54.n, k54.ag) := by kernel_rfl
theorem o54_8 : fldOff Tryz.prog 54 8 = some F54_8.off := by kernel_rfl
theorem pl54 : plS Tryz.prog 54 = some [(0, 1), (1, 1), (2, 1), (3, 1), (4, 1), (5, 1), (6, 1), (7, 1), (8, 2)] := by kernel_rfl
theorem zr54 {G : Gh} : k54.rep G [.int .i64 0, .int .i64 0, .int .i64 0, .int .i64 0, .int .i64 0, .int .i64 0, .int .i64 0, .int .i64 0, .float .f64 0, .float .f64 0] (⟨(0 : Int), (0 : Int), (0 : Int), (0 : Int), (0 : Int), (0 : Int), (0 : Int), (0 : Int), (List.replicate 2 (0 : Nat))⟩ : T54) := (zr_iso (zr_prod zr_int (zr_prod zr_int (zr_prod zr_int (zr_prod zr_int (zr_prod zr_int (zr_prod zr_int (zr_prod zr_int (zr_prod zr_int (zr_arr zr_f64))))))))))
theorem z54 : Zr Tryz.prog k54 54 (⟨(0 : Int), (0 : Int), (0 : Int), (0 : Int), (0 : Int), (0 : Int), (0 : Int), (0 : Int), (List.replicate 2 (0 : Nat))⟩ : T54) := ⟨_, .agg #[.int .i64 0, .int .i64 0, .int .i64 0, .int .i64 0, .int .i64 0, .int .i64 0, .int .i64 0, .int .i64 0, .float .f64 0, .float .f64 0], rfl, by kernel_rfl, fun _ => Kd.val_of_agg rfl zr54⟩
theorem t58 : tyOf Tryz.prog 58 = some (k58.n, k58.ag) := by kernel_rfl
theorem o58_0 : fldOff Tryz.prog 58 0 = some F58_0.off := by kernel_rfl
theorem o58_1 : fldOff Tryz.prog 58 1 = some F58_1.off := by kernel_rfl
theorem o58_2 : fldOff Tryz.prog 58 2 = some F58_2.off := by kernel_rfl
theorem o58_3 : fldOff Tryz.prog 58 3 = some F58_3.off := by kernel_rfl
theorem o58_4 : fldOff Tryz.prog 58 4 = some F58_4.off := by kernel_rfl
theorem o58_5 : fldOff Tryz.prog 58 5 = some F58_5.off := by kernel_rfl
theorem ft58_0 : fldT Tryz.prog 58 0 = some 28 := by kernel_rfl
theorem ft58_1 : fldT Tryz.prog 58 1 = some 3 := by kernel_rfl
theorem pl58 : plS Tryz.prog 58 = some [(0, 1), (1, 1), (2, 1), (3, 1), (4, 10), (14, 5)] := by kernel_rfl
theorem zr58 {G : Gh} : k58.rep G [.int .i64 0, .int .i64 0, .slice none 0 0, .slice none 0 0, .int .i64 0, .int .i64 0, .int .i64 0, .int .i64 0, .int .i64 0, .int .i64 0, .int .i64 0, .int .i64 0, .float .f64 0, .float .f64 0, .int .i64 0, .int .i64 0, .int .i64 0, .int .i64 0, .int .i64 0] (⟨(0 : Int), (0 : Int), ([] : (List UInt8)), ([] : (List ByteArray)), (⟨(0 : Int), (0 : Int), (0 : Int), (0 : Int), (0 : Int), (0 : Int), (0 : Int), (0 : Int), (List.replicate 2 (0 : Nat))⟩ : T54), (⟨(0 : Int), (0 : Int), (0 : Int), (0 : Int), (0 : Int)⟩ : T56)⟩ : T58) := (zr_iso (zr_prod zr_int (zr_prod zr_int (zr_prod zr_sl (zr_prod zr_sl (zr_prod zr54 zr56))))))
theorem z58 : Zr Tryz.prog k58 58 (⟨(0 : Int), (0 : Int), ([] : (List UInt8)), ([] : (List ByteArray)), (⟨(0 : Int), (0 : Int), (0 : Int), (0 : Int), (0 : Int), (0 : Int), (0 : Int), (0 : Int), (List.replicate 2 (0 : Nat))⟩ : T54), (⟨(0 : Int), (0 : Int), (0 : Int), (0 : Int), (0 : Int)⟩ : T56)⟩ : T58) := ⟨_, .agg #[.int .i64 0, .int .i64 0, .slice none 0 0, .slice none 0 0, .int .i64 0, .int .i64 0, .int .i64 0, .int .i64 0, .int .i64 0, .int .i64 0, .int .i64 0, .int .i64 0, .float .f64 0, .float .f64 0, .int .i64 0, .int .i64 0, .int .i64 0, .int .i64 0, .int .i64 0], rfl, by kernel_rfl, fun _ => Kd.val_of_agg rfl zr58⟩
theorem u21 : Tryz.prog.underlying 21 = some (.int .i32) := by kernel_rfl
theorem t210 : tyOf Tryz.prog 210 = some (k210.n, k210.ag) := by kernel_rfl
theorem o210_0 : fldOff Tryz.prog 210 0 = some F210_0.off := by kernel_rfl
theorem o210_1 : fldOff Tryz.prog 210 1 = some F210_1.off := by kernel_rfl
theorem o210_2 : fldOff Tryz.prog 210 2 = some F210_2.off := by kernel_rfl
theorem pl210 : plS Tryz.prog 210 = some [(0, 1), (1, 1), (2, 1)] := by kernel_rfl
theorem zr210 {G : Gh} : k210.rep G [.int .i64 0, .int .i64 0, .string ByteArray.empty] (⟨(0 : Int), (0 : Int), ByteArray.empty⟩ : T210) := (zr_iso (zr_prod zr_int (zr_prod zr_int zr_str)))
theorem z210 : Zr Tryz.prog k210 210 (⟨(0 : Int), (0 : Int), ByteArray.empty⟩ : T210) := ⟨_, .agg #[.int .i64 0, .int .i64 0, .string ByteArray.empty], rfl, by kernel_rfl, fun _ => Kd.val_of_agg rfl zr210⟩
theorem s267 : slOf Tryz.prog 267 = some 3 := by kernel_rfl
theorem t359 : tyOf Tryz.prog 359 = some (a298.n, a298.ag) := by kernel_rfl
theorem r359 : arrOf Tryz.prog 359 = some (256, 4) := by kernel_rfl
theorem z359 : Zr Tryz.prog a298 359 (List.replicate 256 false) := ⟨_, .agg (List.replicate 256 (.bool false)).toArray, rfl, by kernel_rfl, fun _ => Kd.val_of_agg rfl (zr_arr zr_bool)⟩
theorem s127 : slOf Tryz.prog 127 = some 4 := by kernel_rfl
theorem r298 : arrOf Tryz.prog 298 = some (256, 4) := by kernel_rfl
theorem z298 : Zr Tryz.prog a298 298 (List.replicate 256 false) := ⟨_, .agg (List.replicate 256 (.bool false)).toArray, rfl, by kernel_rfl, fun _ => Kd.val_of_agg rfl (zr_arr zr_bool)⟩
theorem t313 : tyOf Tryz.prog 313 = some (a313.n, a313.ag) := by kernel_rfl
theorem r313 : arrOf Tryz.prog 313 = some (40, 3) := by kernel_rfl
theorem z313 : Zr Tryz.prog a313 313 (List.replicate 40 (0 : Int)) := ⟨_, .agg (List.replicate 40 (.int .i64 0)).toArray, rfl, by kernel_rfl, fun _ => Kd.val_of_agg rfl (zr_arr zr_int)⟩
theorem u111 : Tryz.prog.underlying 111 = some (.int .u64) := by kernel_rfl
theorem t2 : tyOf Tryz.prog 2 = some ((kInt .i64).n, (kInt .i64).ag) := by kernel_rfl
theorem u2 : Tryz.prog.underlying 2 = some (.int .i64) := by kernel_rfl
theorem e2 : elB Tryz.prog 2 (kInt .i64).n = true := by kernel_rfl
def beq52 (x y : (List Nat)) : Bool := eqL (fun x y => (fEq x y)) x y
theorem eq52 : EqK Tryz.prog a52 52 beq52 2 := eqArr r52 t31 (eqF64 u31)
def beq54 (x y : T54) : Bool := (x.Inode == y.Inode) && ((x.Kind == y.Kind) && ((x.Mode == y.Mode) && ((x.Uid == y.Uid) && ((x.Gid == y.Gid) && ((x.Links == y.Links) && ((x.Size == y.Size) && ((x.Blocks == y.Blocks) && ((beq52 x.Times y.Times) && (true)))))))))
theorem fs54 : eqFs Tryz.prog 54 = some [(0, 3), (1, 51), (2, 3), (3, 3), (4, 3), (5, 3), (6, 3), (7, 3), (8, 52)] := by kernel_rfl
theorem eq54 : EqK Tryz.prog k54 54 beq54 3 := eqStruct (d0 := 2) rfl fs54 (.cons F54_0 t3 (EqK.up (eqInt u3) (by decide)) (.cons F54_1 t51 (EqK.up (eqInt u51) (by decide)) (.cons F54_2 t3 (EqK.up (eqInt u3) (by decide)) (.cons F54_3 t3 (EqK.up (eqInt u3) (by decide)) (.cons F54_4 t3 (EqK.up (eqInt u3) (by decide)) (.cons F54_5 t3 (EqK.up (eqInt u3) (by decide)) (.cons F54_6 t3 (EqK.up (eqInt u3) (by decide)) (.cons F54_7 t3 (EqK.up (eqInt u3) (by decide)) (.cons F54_8 t52 (EqK.up eq52 (by decide)) .nil)))))))))
theorem eg54 : Program.eqGuardType Tryz.prog (Program.depth Tryz.prog) 54 = false := by kernel_rfl
def beq56 (x y : T56) : Bool := (x.Uid == y.Uid) && ((x.Blocks == y.Blocks) && ((x.Inodes == y.Inodes) && ((x.MaxBlocks == y.MaxBlocks) && ((x.MaxInodes == y.MaxInodes) && (true)))))
theorem fs56 : eqFs Tryz.prog 56 = some [(0, 3), (1, 3), (2, 3), (3, 3), (4, 3)] := by kernel_rfl
theorem eq56 : EqK Tryz.prog k56 56 beq56 2 := eqStruct (d0 := 1) rfl fs56 (.cons F56_0 t3 (EqK.up (eqInt u3) (by decide)) (.cons F56_1 t3 (EqK.up (eqInt u3) (by decide)) (.cons F56_2 t3 (EqK.up (eqInt u3) (by decide)) (.cons F56_3 t3 (EqK.up (eqInt u3) (by decide)) (.cons F56_4 t3 (EqK.up (eqInt u3) (by decide)) .nil)))))
theorem eg56 : Program.eqGuardType Tryz.prog (Program.depth Tryz.prog) 56 = false := by kernel_rfl
theorem b13 : callB Tryz.prog 13 = true := by kernel_rfl
theorem b15 : callB Tryz.prog 15 = true := by kernel_rfl
theorem b17 : callB Tryz.prog 17 = true := by kernel_rfl
theorem b18 : callB Tryz.prog 18 = true := by kernel_rfl
theorem b19 : callB Tryz.prog 19 = true := by kernel_rfl
theorem b20 : callB Tryz.prog 20 = true := by kernel_rfl
theorem b21 : callB Tryz.prog 21 = true := by kernel_rfl
theorem b37 : callB Tryz.prog 37 = true := by kernel_rfl
theorem b38 : callB Tryz.prog 38 = true := by kernel_rfl
theorem b39 : callB Tryz.prog 39 = true := by kernel_rfl
theorem b42 : callB Tryz.prog 42 = true := by kernel_rfl
theorem b43 : callB Tryz.prog 43 = true := by kernel_rfl
theorem b46 : callB Tryz.prog 46 = true := by kernel_rfl
theorem b48 : callB Tryz.prog 48 = true := by kernel_rfl
theorem b49 : callB Tryz.prog 49 = true := by kernel_rfl
theorem b70 : callB Tryz.prog 70 = true := by kernel_rfl
theorem b80 : callB Tryz.prog 80 = true := by kernel_rfl
theorem b81 : callB Tryz.prog 81 = true := by kernel_rfl
theorem b82 : callB Tryz.prog 82 = true := by kernel_rfl
theorem b83 : callB Tryz.prog 83 = true := by kernel_rfl
theorem b84 : callB Tryz.prog 84 = true := by kernel_rfl
theorem b85 : callB Tryz.prog 85 = true := by kernel_rfl
theorem b86 : callB Tryz.prog 86 = true := by kernel_rfl
theorem b87 : callB Tryz.prog 87 = true := by kernel_rfl
theorem b89 : callB Tryz.prog 89 = true := by kernel_rfl
theorem b90 : callB Tryz.prog 90 = true := by kernel_rfl
theorem b91 : callB Tryz.prog 91 = true := by kernel_rfl
theorem b92 : callB Tryz.prog 92 = true := by kernel_rfl
theorem b93 : callB Tryz.prog 93 = true := by kernel_rfl
theorem b94 : callB Tryz.prog 94 = true := by kernel_rfl
theorem b95 : callB Tryz.prog 95 = true := by kernel_rfl
theorem b96 : callB Tryz.prog 96 = true := by kernel_rfl
theorem b97 : callB Tryz.prog 97 = true := by kernel_rfl
theorem b98 : callB Tryz.prog 98 = true := by kernel_rfl
theorem b99 : callB Tryz.prog 99 = true := by kernel_rfl
theorem b100 : callB Tryz.prog 100 = true := by kernel_rfl
theorem b101 : callB Tryz.prog 101 = true := by kernel_rfl
theorem b102 : callB Tryz.prog 102 = true := by kernel_rfl
theorem b103 : callB Tryz.prog 103 = true := by kernel_rfl
theorem b104 : callB Tryz.prog 104 = true := by kernel_rfl
theorem b107 : callB Tryz.prog 107 = true := by kernel_rfl
theorem b110 : callB Tryz.prog 110 = true := by kernel_rfl
theorem b116 : callB Tryz.prog 116 = true := by kernel_rfl
theorem b117 : callB Tryz.prog 117 = true := by kernel_rfl
theorem b120 : callB Tryz.prog 120 = true := by kernel_rfl
theorem b121 : callB Tryz.prog 121 = true := by kernel_rfl
theorem b135 : callB Tryz.prog 135 = true := by kernel_rfl
theorem b139 : callB Tryz.prog 139 = true := by kernel_rfl
theorem b140 : callB Tryz.prog 140 = true := by kernel_rfl
theorem b141 : callB Tryz.prog 141 = true := by kernel_rfl
theorem b142 : callB Tryz.prog 142 = true := by kernel_rfl
theorem b143 : callB Tryz.prog 143 = true := by kernel_rfl
theorem b144 : callB Tryz.prog 144 = true := by kernel_rfl
theorem b148 : callB Tryz.prog 148 = true := by kernel_rfl
theorem b149 : callB Tryz.prog 149 = true := by kernel_rfl
theorem b150 : callB Tryz.prog 150 = true := by kernel_rfl
theorem b151 : callB Tryz.prog 151 = true := by kernel_rfl
theorem b152 : callB Tryz.prog 152 = true := by kernel_rfl
theorem b153 : callB Tryz.prog 153 = true := by kernel_rfl
theorem b154 : callB Tryz.prog 154 = true := by kernel_rfl
theorem b155 : callB Tryz.prog 155 = true := by kernel_rfl
theorem b159 : callB Tryz.prog 159 = true := by kernel_rfl
theorem b163 : callB Tryz.prog 163 = true := by kernel_rfl
theorem b164 : callB Tryz.prog 164 = true := by kernel_rfl
theorem b165 : callB Tryz.prog 165 = true := by kernel_rfl
theorem b166 : callB Tryz.prog 166 = true := by kernel_rfl
theorem b167 : callB Tryz.prog 167 = true := by kernel_rfl
theorem b168 : callB Tryz.prog 168 = true := by kernel_rfl
theorem b169 : callB Tryz.prog 169 = true := by kernel_rfl
theorem b170 : callB Tryz.prog 170 = true := by kernel_rfl
theorem b171 : callB Tryz.prog 171 = true := by kernel_rfl
theorem b172 : callB Tryz.prog 172 = true := by kernel_rfl
theorem b173 : callB Tryz.prog 173 = true := by kernel_rfl
theorem b174 : callB Tryz.prog 174 = true := by kernel_rfl
theorem b175 : callB Tryz.prog 175 = true := by kernel_rfl
theorem b176 : callB Tryz.prog 176 = true := by kernel_rfl
theorem b177 : callB Tryz.prog 177 = true := by kernel_rfl
theorem b178 : callB Tryz.prog 178 = true := by kernel_rfl
theorem b179 : callB Tryz.prog 179 = true := by kernel_rfl
theorem b181 : callB Tryz.prog 181 = true := by kernel_rfl
theorem b182 : callB Tryz.prog 182 = true := by kernel_rfl
theorem b190 : callB Tryz.prog 190 = true := by kernel_rfl
theorem b193 : callB Tryz.prog 193 = true := by kernel_rfl
theorem b219 : callB Tryz.prog 219 = true := by kernel_rfl
theorem b220 : callB Tryz.prog 220 = true := by kernel_rfl
theorem b225 : callB Tryz.prog 225 = true := by kernel_rfl
theorem b226 : callB Tryz.prog 226 = true := by kernel_rfl
theorem b227 : callB Tryz.prog 227 = true := by kernel_rfl
theorem b228 : callB Tryz.prog 228 = true := by kernel_rfl
theorem b230 : callB Tryz.prog 230 = true := by kernel_rfl
theorem b231 : callB Tryz.prog 231 = true := by kernel_rfl
theorem b233 : callB Tryz.prog 233 = true := by kernel_rfl
theorem b234 : callB Tryz.prog 234 = true := by kernel_rfl
theorem b236 : callB Tryz.prog 236 = true := by kernel_rfl
theorem b237 : callB Tryz.prog 237 = true := by kernel_rfl
theorem b238 : callB Tryz.prog 238 = true := by kernel_rfl
theorem b239 : callB Tryz.prog 239 = true := by kernel_rfl
theorem b240 : callB Tryz.prog 240 = true := by kernel_rfl
theorem b241 : callB Tryz.prog 241 = true := by kernel_rfl
theorem b242 : callB Tryz.prog 242 = true := by kernel_rfl
theorem b243 : callB Tryz.prog 243 = true := by kernel_rfl
theorem b244 : callB Tryz.prog 244 = true := by kernel_rfl
theorem b246 : callB Tryz.prog 246 = true := by kernel_rfl
theorem b247 : callB Tryz.prog 247 = true := by kernel_rfl
theorem b254 : callB Tryz.prog 254 = true := by kernel_rfl
theorem b255 : callB Tryz.prog 255 = true := by kernel_rfl
theorem b257 : callB Tryz.prog 257 = true := by kernel_rfl
theorem b281 : callB Tryz.prog 281 = true := by kernel_rfl
theorem b282 : callB Tryz.prog 282 = true := by kernel_rfl
theorem b283 : callB Tryz.prog 283 = true := by kernel_rfl
theorem b284 : callB Tryz.prog 284 = true := by kernel_rfl
theorem b285 : callB Tryz.prog 285 = true := by kernel_rfl
theorem b288 : callB Tryz.prog 288 = true := by kernel_rfl
theorem b289 : callB Tryz.prog 289 = true := by kernel_rfl
theorem b290 : callB Tryz.prog 290 = true := by kernel_rfl
theorem b293 : callB Tryz.prog 293 = true := by kernel_rfl
theorem b294 : callB Tryz.prog 294 = true := by kernel_rfl
theorem b298 : callB Tryz.prog 298 = true := by kernel_rfl
theorem b299 : callB Tryz.prog 299 = true := by kernel_rfl
theorem b308 : callB Tryz.prog 308 = true := by kernel_rfl
theorem b309 : callB Tryz.prog 309 = true := by kernel_rfl
theorem b312 : callB Tryz.prog 312 = true := by kernel_rfl
theorem b313 : callB Tryz.prog 313 = true := by kernel_rfl
theorem b314 : callB Tryz.prog 314 = true := by kernel_rfl
theorem b316 : callB Tryz.prog 316 = true := by kernel_rfl
theorem b322 : callB Tryz.prog 322 = true := by kernel_rfl
theorem b323 : callB Tryz.prog 323 = true := by kernel_rfl
theorem b324 : callB Tryz.prog 324 = true := by kernel_rfl
theorem b327 : callB Tryz.prog 327 = true := by kernel_rfl
theorem b328 : callB Tryz.prog 328 = true := by kernel_rfl
theorem b329 : callB Tryz.prog 329 = true := by kernel_rfl
theorem b330 : callB Tryz.prog 330 = true := by kernel_rfl
theorem b331 : callB Tryz.prog 331 = true := by kernel_rfl
theorem b332 : callB Tryz.prog 332 = true := by kernel_rfl
theorem b335 : callB Tryz.prog 335 = true := by kernel_rfl
theorem b336 : callB Tryz.prog 336 = true := by kernel_rfl
theorem b337 : callB Tryz.prog 337 = true := by kernel_rfl
theorem b338 : callB Tryz.prog 338 = true := by kernel_rfl
theorem b341 : callB Tryz.prog 341 = true := by kernel_rfl
theorem b345 : callB Tryz.prog 345 = true := by kernel_rfl
theorem b346 : callB Tryz.prog 346 = true := by kernel_rfl
theorem b350 : callB Tryz.prog 350 = true := by kernel_rfl
theorem b351 : callB Tryz.prog 351 = true := by kernel_rfl
theorem b352 : callB Tryz.prog 352 = true := by kernel_rfl
theorem b353 : callB Tryz.prog 353 = true := by kernel_rfl
theorem b358 : callB Tryz.prog 358 = true := by kernel_rfl
theorem pt24 : isPtrT Tryz.prog 24 = true := by kernel_rfl
theorem it3 : isIntT Tryz.prog 3 = true := by kernel_rfl
theorem x44 : ExB Tryz.prog 44 Extern.MathFloatBits.float64bits := ⟨_, Tryz.func44, by kernel_rfl, by kernel_rfl, by kernel_rfl, by kernel_rfl⟩
theorem x131 : ExB Tryz.prog 131 Extern.MathFloatBits.float64frombits := ⟨_, Tryz.func131, by kernel_rfl, by kernel_rfl, by kernel_rfl, by kernel_rfl⟩
theorem x221 : ExB Tryz.prog 221 (Extern.SlicesOverlaps.overlaps #[32, 32] #[4]) := ⟨_, Tryz.func221, by kernel_rfl, by kernel_rfl, by kernel_rfl, by kernel_rfl⟩
theorem x291 : ExB Tryz.prog 291 (Extern.SlicesOverlaps.overlaps #[81, 81] #[4]) := ⟨_, Tryz.func291, by kernel_rfl, by kernel_rfl, by kernel_rfl, by kernel_rfl⟩
theorem x310 : ExB Tryz.prog 310 (Extern.SlicesOverlaps.overlaps #[85, 85] #[4]) := ⟨_, Tryz.func310, by kernel_rfl, by kernel_rfl, by kernel_rfl, by kernel_rfl⟩
theorem x333 : ExB Tryz.prog 333 Extern.BytealgCompare.compare := ⟨_, Tryz.func333, by kernel_rfl, by kernel_rfl, by kernel_rfl, by kernel_rfl⟩
theorem x347 : ExB Tryz.prog 347 Extern.BytealgCount.count := ⟨_, Tryz.func347, by kernel_rfl, by kernel_rfl, by kernel_rfl, by kernel_rfl⟩
theorem x356 : ExB Tryz.prog 356 Extern.BytealgIndexByte.indexByte := ⟨_, Tryz.func356, by kernel_rfl, by kernel_rfl, by kernel_rfl, by kernel_rfl⟩
theorem mx : Tryz.prog.follows .mixedOrders = true := by kernel_rfl
abbrev FO (c : Cx) (D : List Own) (R : Value → Gh → Prop) : Ending → World → Prop := Fin c fun v H Δ => Δ = D ∧ R v H
abbrev o3 := @own103
theorem fi {n : Nat} {a : Act} {w : World} {l : List (Nat × Value)} {c : Cx} {G : Gh} {Δ : List Own} (fn : Func) {R : Value → Gh → List Own → Prop} {rs : List ResultVar} {e : Exit} (vs : List Value) (K : Tm n a l) (h : St c G w Δ) (hr : fn.results = rs.toArray) (hv : resB Tryz.prog l w rs vs) (he : e = .ret ∨ e = .normal) (hR : R (pack vs) G Δ) : bodyPost Tryz.prog fn (Fin c R) e a w := fin vs K h hr hv he hR
abbrev J56_0 := ((Fld.id k56).comp F56_0)
abbrev J56_1 := ((Fld.id k56).comp F56_1)
abbrev J56_2 := ((Fld.id k56).comp F56_2)
abbrev J56_3 := ((Fld.id k56).comp F56_3)
abbrev J56_4 := ((Fld.id k56).comp F56_4)
abbrev Ik56 := Fld.id k56
abbrev Z56 : T56 := ⟨(0 : Int), (0 : Int), (0 : Int), (0 : Int), (0 : Int)⟩
abbrev Z84 : T84 := ⟨(0 : Int), (0 : Int), (0 : Int), (0 : Int), (0 : Int), (0 : Int), (List.replicate 2 (0 : Nat)), ByteArray.empty, ([] : (List T108)), ([] : (List T94))⟩
abbrev J37_4o := ((Fld.id k37o).comp F37_4o)
abbrev J37_3o := ((Fld.id k37o).comp F37_3o)
abbrev Ik37o := Fld.id k37o
abbrev Ik84 := Fld.id k84
abbrev Ik103o := Fld.id k103o
abbrev J37_5o := ((Fld.id k37o).comp F37_5o)
abbrev J37_6o := ((Fld.id k37o).comp F37_6o)
abbrev J103_0o := ((Fld.id k103o).comp F103_0o)
abbrev J103_1o := ((Fld.id k103o).comp F103_1o)
abbrev IkStr := Fld.id kStr
abbrev J84_1 := ((Fld.id k84).comp F84_1)
abbrev J84_2 := ((Fld.id k84).comp F84_2)
abbrev J84_3 := ((Fld.id k84).comp F84_3)
abbrev J87_0 := ((Fld.id k87).comp F87_0)
abbrev Ik87 := Fld.id k87
abbrev J87_1 := ((Fld.id k87).comp F87_1)
abbrev Z210 : T210 := ⟨(0 : Int), (0 : Int), ByteArray.empty⟩
abbrev J84_0 := ((Fld.id k84).comp F84_0)
abbrev J84_7 := ((Fld.id k84).comp F84_7)
abbrev Ik210 := Fld.id k210
abbrev J210_0 := ((Fld.id k210).comp F210_0)
abbrev J210_1 := ((Fld.id k210).comp F210_1)
abbrev J84_6 := ((Fld.id k84).comp F84_6)
abbrev J84_9 := ((Fld.id k84).comp F84_9)
abbrev J94_2 := ((Fld.id k94).comp F94_2)
abbrev J94_1 := ((Fld.id k94).comp F94_1)
abbrev IkBool := Fld.id kBool
abbrev Ik94 := Fld.id k94
abbrev J94_0 := ((Fld.id k94).comp F94_0)
abbrev J84_5 := ((Fld.id k84).comp F84_5)
abbrev J84_4 := ((Fld.id k84).comp F84_4)
abbrev Ik58 := Fld.id k58
abbrev J210_2 := ((Fld.id k210).comp F210_2)
abbrev J108_0 := ((Fld.id k108).comp F108_0)
abbrev J108_1 := ((Fld.id k108).comp F108_1)
abbrev Ik108 := Fld.id k108
abbrev J84_8 := ((Fld.id k84).comp F84_8)
abbrev Z58 : T58 := ⟨(0 : Int), (0 : Int), ([] : (List UInt8)), ([] : (List ByteArray)), (⟨(0 : Int), (0 : Int), (0 : Int), (0 : Int), (0 : Int), (0 : Int), (0 : Int), (0 : Int), (List.replicate 2 (0 : Nat))⟩ : T54), Z56⟩
abbrev J58_0 := ((Fld.id k58).comp F58_0)
abbrev J58_1 := ((Fld.id k58).comp F58_1)
abbrev J58_2 := ((Fld.id k58).comp F58_2)
abbrev Ik45 := Fld.id k45
abbrev Ik37 := Fld.id k37
abbrev J58_4 := ((Fld.id k58).comp F58_4)
abbrev J58_3 := ((Fld.id k58).comp F58_3)
abbrev J58_5 := ((Fld.id k58).comp F58_5)
end Go.Proofs.YthhhomgbpnmeeaaGreatDoor
