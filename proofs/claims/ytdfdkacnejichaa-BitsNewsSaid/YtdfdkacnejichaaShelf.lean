/- The library's functions that this program calls: none has a contract here. -/
import Derived.Test.YtdfdkacnejichaaRows
